/- The value of a code: drossref01.Of. -/
import Derived.Test.YtkehelplmipenaaGTabB
import Derived.Test.YtkehelplmipenaaOpen
namespace Go.Proofs.Ytkehelplmipenaa
open Go.RowKit

def codeV : Nat → V3
  | 0 => (1, 0, ByteArray.mk #[])
  | 1 => (1, 1, ByteArray.mk #[])
  | 2 => (1, 2, ByteArray.mk #[])
  | 3 => (0, 0, ByteArray.mk #[])
  | 4 => (2, 0, ByteArray.mk #[97])
  | 5 => (2, 0, ByteArray.mk #[98])
  | 6 => (2, 0, ByteArray.mk #[])
  | 7 => (3, 1, ByteArray.mk #[])
  | 8 => (1, (-1), ByteArray.mk #[])
  | 9 => (2, 0, ByteArray.mk #[97, 98])
  | 10 => (3, 2, ByteArray.mk #[])
  | _ => (1, 7, ByteArray.mk #[])
theorem code_ok (c : Nat) : badV (codeV c) = false := by
  unfold badV validV codeV
  split <;> simp only [ByteArray.toList_eq] <;> rfl

set_option maxHeartbeats 1600000 in
theorem code_any (b : U8) (w : World) : Calls Try.prog 71 #[.int .u8 (b.toNat : Int)] w fun e w' => e = .returned (.agg #[.int .i64 (codeV (b.toNat % 12)).1, .int .i64 (codeV (b.toNat % 12)).2.1, .string (codeV (b.toNat % 12)).2.2]) ∧ Below w.heap.size w w' := by
  have hlt : b.toNat % 12 < 12 := Nat.mod_lt _ (by decide)
  have UM2 : (b.toNat : Int) % 12 = ((b.toNat % 12 : Nat) : Int) := by omega
  have hbb : (b.toNat : Int) ≤ 255 := by have := b.isLt; omega
  have hb0 : (0 : Int) ≤ (b.toNat : Int) := by omega
  obtain ⟨K, hK⟩ : ∃ K, b.toNat % 12 = K := ⟨_, rfl⟩
  rw [hK] at UM2 hlt ⊢
  generalize (b.toNat : Int) = bi at *
  clear hK
  have hcases : K = 0 ∨ K = 1 ∨ K = 2 ∨ K = 3 ∨ K = 4 ∨ K = 5 ∨ K = 6 ∨ K = 7 ∨ K = 8 ∨ K = 9 ∨ K = 10 ∨ K = 11 := by omega
  rcases hcases with rfl | rfl | rfl | rfl | rfl | rfl | rfl | rfl | rfl | rfl | rfl | rfl
  · have UM : bi % 12 = 0 := UM2
    clear UM2
    go_enter Try.func71, Try.ntmps71
    go_wp2_with fail
    have hb := below_alloc w (.cells #[.int .i64 1, .int .i64 0, .string (ByteArray.mk #[])] 64)
    have c := cells3 (w := w) (a := .int .i64 1) (b := .int .i64 0) (c := .string (ByteArray.mk #[])) (t := 64) _ (Below.refl _ _)
    obtain ⟨w1, hw1⟩ : ∃ w1 : World, w.alloc (.cells #[.int .i64 1, .int .i64 0, .string (ByteArray.mk #[])] 64) = w1 := ⟨_, rfl⟩
    rw [hw1] at hb c ⊢
    exact bodyPost_ret (v := .agg #[.int .i64 1, .int .i64 0, .string (ByteArray.mk #[])]) (by simp [results, Try.results71, go_sem, c.1, c.2.1, c.2.2]) rfl ⟨rfl, hb⟩
  · have UM : bi % 12 = 1 := UM2
    clear UM2
    go_enter Try.func71, Try.ntmps71
    go_wp2_with fail
    have hb := below_alloc w (.cells #[.int .i64 1, .int .i64 1, .string (ByteArray.mk #[])] 64)
    have c := cells3 (w := w) (a := .int .i64 1) (b := .int .i64 1) (c := .string (ByteArray.mk #[])) (t := 64) _ (Below.refl _ _)
    obtain ⟨w1, hw1⟩ : ∃ w1 : World, w.alloc (.cells #[.int .i64 1, .int .i64 1, .string (ByteArray.mk #[])] 64) = w1 := ⟨_, rfl⟩
    rw [hw1] at hb c ⊢
    exact bodyPost_ret (v := .agg #[.int .i64 1, .int .i64 1, .string (ByteArray.mk #[])]) (by simp [results, Try.results71, go_sem, c.1, c.2.1, c.2.2]) rfl ⟨rfl, hb⟩
  · have UM : bi % 12 = 2 := UM2
    clear UM2
    go_enter Try.func71, Try.ntmps71
    go_wp2_with fail
    have hb := below_alloc w (.cells #[.int .i64 1, .int .i64 2, .string (ByteArray.mk #[])] 64)
    have c := cells3 (w := w) (a := .int .i64 1) (b := .int .i64 2) (c := .string (ByteArray.mk #[])) (t := 64) _ (Below.refl _ _)
    obtain ⟨w1, hw1⟩ : ∃ w1 : World, w.alloc (.cells #[.int .i64 1, .int .i64 2, .string (ByteArray.mk #[])] 64) = w1 := ⟨_, rfl⟩
    rw [hw1] at hb c ⊢
    exact bodyPost_ret (v := .agg #[.int .i64 1, .int .i64 2, .string (ByteArray.mk #[])]) (by simp [results, Try.results71, go_sem, c.1, c.2.1, c.2.2]) rfl ⟨rfl, hb⟩
  · have UM : bi % 12 = 3 := UM2
    clear UM2
    go_enter Try.func71, Try.ntmps71
    go_wp2_with fail
    have hb := below_alloc w (.cells #[.int .i64 0, .int .i64 0, .string (ByteArray.mk #[])] 64)
    have c := cells3 (w := w) (a := .int .i64 0) (b := .int .i64 0) (c := .string (ByteArray.mk #[])) (t := 64) _ (Below.refl _ _)
    obtain ⟨w1, hw1⟩ : ∃ w1 : World, w.alloc (.cells #[.int .i64 0, .int .i64 0, .string (ByteArray.mk #[])] 64) = w1 := ⟨_, rfl⟩
    rw [hw1] at hb c ⊢
    exact bodyPost_ret (v := .agg #[.int .i64 0, .int .i64 0, .string (ByteArray.mk #[])]) (by simp [results, Try.results71, go_sem, c.1, c.2.1, c.2.2]) rfl ⟨rfl, hb⟩
  · have UM : bi % 12 = 4 := UM2
    clear UM2
    go_enter Try.func71, Try.ntmps71
    go_wp2_with fail
    have hb := below_alloc w (.cells #[.int .i64 2, .int .i64 0, .string (ByteArray.mk #[97])] 64)
    have c := cells3 (w := w) (a := .int .i64 2) (b := .int .i64 0) (c := .string (ByteArray.mk #[97])) (t := 64) _ (Below.refl _ _)
    obtain ⟨w1, hw1⟩ : ∃ w1 : World, w.alloc (.cells #[.int .i64 2, .int .i64 0, .string (ByteArray.mk #[97])] 64) = w1 := ⟨_, rfl⟩
    rw [hw1] at hb c ⊢
    exact bodyPost_ret (v := .agg #[.int .i64 2, .int .i64 0, .string (ByteArray.mk #[97])]) (by simp [results, Try.results71, go_sem, c.1, c.2.1, c.2.2]) rfl ⟨rfl, hb⟩
  · have UM : bi % 12 = 5 := UM2
    clear UM2
    go_enter Try.func71, Try.ntmps71
    go_wp2_with fail
    have hb := below_alloc w (.cells #[.int .i64 2, .int .i64 0, .string (ByteArray.mk #[98])] 64)
    have c := cells3 (w := w) (a := .int .i64 2) (b := .int .i64 0) (c := .string (ByteArray.mk #[98])) (t := 64) _ (Below.refl _ _)
    obtain ⟨w1, hw1⟩ : ∃ w1 : World, w.alloc (.cells #[.int .i64 2, .int .i64 0, .string (ByteArray.mk #[98])] 64) = w1 := ⟨_, rfl⟩
    rw [hw1] at hb c ⊢
    exact bodyPost_ret (v := .agg #[.int .i64 2, .int .i64 0, .string (ByteArray.mk #[98])]) (by simp [results, Try.results71, go_sem, c.1, c.2.1, c.2.2]) rfl ⟨rfl, hb⟩
  · have UM : bi % 12 = 6 := UM2
    clear UM2
    go_enter Try.func71, Try.ntmps71
    go_wp2_with fail
    have hb := below_alloc w (.cells #[.int .i64 2, .int .i64 0, .string (ByteArray.mk #[])] 64)
    have c := cells3 (w := w) (a := .int .i64 2) (b := .int .i64 0) (c := .string (ByteArray.mk #[])) (t := 64) _ (Below.refl _ _)
    obtain ⟨w1, hw1⟩ : ∃ w1 : World, w.alloc (.cells #[.int .i64 2, .int .i64 0, .string (ByteArray.mk #[])] 64) = w1 := ⟨_, rfl⟩
    rw [hw1] at hb c ⊢
    exact bodyPost_ret (v := .agg #[.int .i64 2, .int .i64 0, .string (ByteArray.mk #[])]) (by simp [results, Try.results71, go_sem, c.1, c.2.1, c.2.2]) rfl ⟨rfl, hb⟩
  · have UM : bi % 12 = 7 := UM2
    clear UM2
    go_enter Try.func71, Try.ntmps71
    go_wp2_with fail
    have hb := below_alloc w (.cells #[.int .i64 3, .int .i64 1, .string (ByteArray.mk #[])] 64)
    have c := cells3 (w := w) (a := .int .i64 3) (b := .int .i64 1) (c := .string (ByteArray.mk #[])) (t := 64) _ (Below.refl _ _)
    obtain ⟨w1, hw1⟩ : ∃ w1 : World, w.alloc (.cells #[.int .i64 3, .int .i64 1, .string (ByteArray.mk #[])] 64) = w1 := ⟨_, rfl⟩
    rw [hw1] at hb c ⊢
    exact bodyPost_ret (v := .agg #[.int .i64 3, .int .i64 1, .string (ByteArray.mk #[])]) (by simp [results, Try.results71, go_sem, c.1, c.2.1, c.2.2]) rfl ⟨rfl, hb⟩
  · have UM : bi % 12 = 8 := UM2
    clear UM2
    go_enter Try.func71, Try.ntmps71
    go_wp2_with fail
    have hb := below_alloc w (.cells #[.int .i64 1, .int .i64 (-1), .string (ByteArray.mk #[])] 64)
    have c := cells3 (w := w) (a := .int .i64 1) (b := .int .i64 (-1)) (c := .string (ByteArray.mk #[])) (t := 64) _ (Below.refl _ _)
    obtain ⟨w1, hw1⟩ : ∃ w1 : World, w.alloc (.cells #[.int .i64 1, .int .i64 (-1), .string (ByteArray.mk #[])] 64) = w1 := ⟨_, rfl⟩
    rw [hw1] at hb c ⊢
    exact bodyPost_ret (v := .agg #[.int .i64 1, .int .i64 (-1), .string (ByteArray.mk #[])]) (by simp [results, Try.results71, go_sem, c.1, c.2.1, c.2.2]) rfl ⟨rfl, hb⟩
  · have UM : bi % 12 = 9 := UM2
    clear UM2
    go_enter Try.func71, Try.ntmps71
    go_wp2_with fail
    have hb := below_alloc w (.cells #[.int .i64 2, .int .i64 0, .string (ByteArray.mk #[97, 98])] 64)
    have c := cells3 (w := w) (a := .int .i64 2) (b := .int .i64 0) (c := .string (ByteArray.mk #[97, 98])) (t := 64) _ (Below.refl _ _)
    obtain ⟨w1, hw1⟩ : ∃ w1 : World, w.alloc (.cells #[.int .i64 2, .int .i64 0, .string (ByteArray.mk #[97, 98])] 64) = w1 := ⟨_, rfl⟩
    rw [hw1] at hb c ⊢
    exact bodyPost_ret (v := .agg #[.int .i64 2, .int .i64 0, .string (ByteArray.mk #[97, 98])]) (by simp [results, Try.results71, go_sem, c.1, c.2.1, c.2.2]) rfl ⟨rfl, hb⟩
  · have UM : bi % 12 = 10 := UM2
    clear UM2
    go_enter Try.func71, Try.ntmps71
    go_wp2_with fail
    have hb := below_alloc w (.cells #[.int .i64 3, .int .i64 2, .string (ByteArray.mk #[])] 64)
    have c := cells3 (w := w) (a := .int .i64 3) (b := .int .i64 2) (c := .string (ByteArray.mk #[])) (t := 64) _ (Below.refl _ _)
    obtain ⟨w1, hw1⟩ : ∃ w1 : World, w.alloc (.cells #[.int .i64 3, .int .i64 2, .string (ByteArray.mk #[])] 64) = w1 := ⟨_, rfl⟩
    rw [hw1] at hb c ⊢
    exact bodyPost_ret (v := .agg #[.int .i64 3, .int .i64 2, .string (ByteArray.mk #[])]) (by simp [results, Try.results71, go_sem, c.1, c.2.1, c.2.2]) rfl ⟨rfl, hb⟩
  · have UM : bi % 12 = 11 := UM2
    clear UM2
    go_enter Try.func71, Try.ntmps71
    go_wp2_with fail
    have hb := below_alloc w (.cells #[.int .i64 1, .int .i64 7, .string (ByteArray.mk #[])] 64)
    have c := cells3 (w := w) (a := .int .i64 1) (b := .int .i64 7) (c := .string (ByteArray.mk #[])) (t := 64) _ (Below.refl _ _)
    obtain ⟨w1, hw1⟩ : ∃ w1 : World, w.alloc (.cells #[.int .i64 1, .int .i64 7, .string (ByteArray.mk #[])] 64) = w1 := ⟨_, rfl⟩
    rw [hw1] at hb c ⊢
    exact bodyPost_ret (v := .agg #[.int .i64 1, .int .i64 7, .string (ByteArray.mk #[])]) (by simp [results, Try.results71, go_sem, c.1, c.2.1, c.2.2]) rfl ⟨rfl, hb⟩

end Go.Proofs.Ytkehelplmipenaa
