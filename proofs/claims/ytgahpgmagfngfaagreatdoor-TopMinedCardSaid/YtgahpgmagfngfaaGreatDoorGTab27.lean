/- Texts that belong together, in one file. -/
import Derived.Test.YtgahpgmagfngfaaGreatDoorGTabB
import Derived.Deep.RegionHeld3
import Derived.Test.YtgahpgmagfngfaaGreatDoorGOrd
import Derived.Test.YtgahpgmagfngfaaGreatDoorOpen
import Derived.Test.YtgahpgmagfngfaaGreatDoorGTab20
import Derived.Test.YtgahpgmagfngfaaGreatDoorGPlain
import Derived.Test.YtgahpgmagfngfaaGreatDoorBase
/- The reference's Values, Lists, Same, Agree (chapters 1 and 3). -/
namespace Go.Proofs.YtgahpgmagfngfaaGreatDoor
open Go.RowKit

theorem infoV : (Tryz.prog.info? 89).map (fun i => (i.zero, i.size, i.bytes)) = some (some (.agg #[.int .i64 0, .int .i64 0, .string (ByteArray.mk #[])]), 3, 32) := by kernel_rfl
theorem undVs : Tryz.prog.underlying 85 = some (.slice 89) := by kernel_rfl
theorem cells_newV (w : World) (x : V3) {t : TypeId} : ∀ j u, (cV x)[j]? = some u → (w.alloc (.cells #[.int .i64 x.1, .int .i64 x.2.1, .string x.2.2] t)).cell? (Addr.add ⟨w.heap.size, 0, none⟩ j) = some u := by
  intro j u hj
  have hj2 : j < 3 := (List.getElem?_eq_some_iff.1 hj).1
  rcases (show j = 0 ∨ j = 1 ∨ j = 2 by omega) with rfl | rfl | rfl
  · simp [cV] at hj; subst hj; simp [Addr.add]
  · simp [cV] at hj; subst hj; simp [Addr.add]
  · simp [cV] at hj; subst hj; simp [Addr.add]
/-- The values at the members of a set, of the first k. -/
def valTo (xs : List V3) (s : S) : Nat → List V3
  | 0 => []
  | k + 1 => if s.getLsbD k = true then valTo xs s k ++ [xs.getD k noV] else valTo xs s k
theorem valTo_at {xs : List V3} {k : Nat} {x : V3} (h : xs[k]? = some x) (s : S) : valTo xs s (k + 1) = if s.getLsbD k = true then valTo xs s k ++ [x] else valTo xs s k := by
  show (if s.getLsbD k = true then valTo xs s k ++ [xs.getD k noV] else valTo xs s k) = _
  simp [List.getD, h]
theorem valTo_same (xs ys : List V3) (s : S) (k : Nat) : (valTo xs s k).length = (valTo ys s k).length := by
  induction k with
  | zero => rfl
  | succ k ih => unfold valTo; split <;> simp [ih]
/-- Two lists of values are equal. -/
def eqLs : List V3 → List V3 → Bool
  | x :: xs, y :: ys => eqV x y && eqLs xs ys
  | [], [] => true
  | _, _ => false
theorem eqLs_snoc : ∀ (xs ys : List V3) (x y : V3), xs.length = ys.length → eqLs (xs ++ [x]) (ys ++ [y]) = (eqLs xs ys && eqV x y) := by
  intro xs
  induction xs with
  | nil => intro ys x y h; cases ys with
    | nil => simp [eqLs]
    | cons b l => cases h
  | cons a xs ih => intro ys x y h; cases ys with
    | nil => cases h
    | cons b ys => simp only [List.cons_append, eqLs]; rw [ih ys x y (by simpa using h), Bool.and_assoc]




/-- Two rows agree on a set. -/
def agB (xs ys : List V3) (s : S) : Bool := eqLs (valTo xs s xs.length) (valTo ys s xs.length)
theorem agB_iff {xs ys : List V3} (s : S) : ∀ k, k ≤ xs.length → k ≤ ys.length → k ≤ 32 → (eqLs (valTo xs s k) (valTo ys s k) = true ↔ ∀ i, i < k → s.getLsbD i = true → (rowsS xs ys k).getLsbD i = true) := by
  intro k
  induction k with
  | zero => intro _ _ _; simp [valTo, eqLs]
  | succ k ih =>
    intro h1 h2 h3
    obtain ⟨x, hx⟩ := get_some (show k < xs.length by omega)
    obtain ⟨y, hy⟩ := get_some (show k < ys.length by omega)
    have ih' := ih (by omega) (by omega) (by omega)
    have hbit : ∀ i, i < k + 1 → (rowsS xs ys (k + 1)).getLsbD i = ((rowsS xs ys k).getLsbD i || (decide (i = k) && eqV x y)) := fun i hi => by
      rw [rowsS_at hx hy]
      cases hq : eqV x y with
      | false => rw [if_neg (by simp)]; simp
      | true => rw [if_pos rfl, BitVec.getLsbD_or, show (1#32 <<< k) = bit k from rfl, bit_get k i (by omega)]; simp
    rw [valTo_at hx, valTo_at hy]
    cases hs : s.getLsbD k with
    | false =>
      rw [if_neg (by simp), if_neg (by simp), ih']
      constructor
      · intro h i hi hb
        rcases Nat.lt_succ_iff_lt_or_eq.1 hi with hlt | rfl
        · rw [hbit i hi, h i hlt hb]; rfl
        · rw [hs] at hb; cases hb
      · intro h i hi hb
        have := h i (by omega) hb
        rw [hbit i (by omega)] at this
        simpa [show i ≠ k by omega] using this
    | true =>
      rw [if_pos rfl, if_pos rfl, eqLs_snoc _ _ _ _ (valTo_same _ _ _ _), Bool.and_eq_true, ih']
      constructor
      · rintro ⟨h, he⟩ i hi hb
        rcases Nat.lt_succ_iff_lt_or_eq.1 hi with hlt | rfl
        · rw [hbit i hi, h i hlt hb]; rfl
        · rw [hbit i hi, he]; simp
      · intro h
        refine ⟨fun i hi hb => ?_, ?_⟩
        · have := h i (by omega) hb
          rw [hbit i (by omega)] at this
          simpa [show i ≠ k by omega] using this
        · have := h k (by omega) hs
          rw [hbit k (by omega)] at this
          have hz : ∀ m, m ≤ k → (rowsS xs ys m).getLsbD k = false := by
            intro m
            induction m with
            | zero => intro _; simp [rowsS]
            | succ m ihm =>
              intro hm
              unfold rowsS
              split
              · rw [BitVec.getLsbD_or, ihm (by omega), show (1#32 <<< m) = bit m from rfl, bit_get m k (by omega)]
                simp; omega
              · exact ihm (by omega)
          rw [hz k (Nat.le_refl _)] at this
          simpa using this

end Go.Proofs.YtgahpgmagfngfaaGreatDoor


/- The reference's Agree and Satisfies (chapters 3 and 27). -/
namespace Go.Proofs.YtgahpgmagfngfaaGreatDoor
open Go.RowKit


/-- A table of rows satisfies a dependency. -/
def satR (f : F) (r q : Row3) : Bool := !(agB r.2.2 q.2.2 f.1) || agB r.2.2 q.2.2 f.2
def satB (rs : List Row3) (f : F) : Bool := rs.all fun r => rs.all (satR f r)

attribute [local irreducible] Go.wpQuiet

end Go.Proofs.YtgahpgmagfngfaaGreatDoor


/- The value of a code: drossref01.Of. -/
namespace Go.Proofs.YtgahpgmagfngfaaGreatDoor
open Go.RowKit

def codeV : Nat → V3
  | 0 => (1, 0, ByteArray.mk #[])
  | 1 => (1, 1, ByteArray.mk #[])
  | 2 => (1, 2, ByteArray.mk #[])
  | 3 => (0, 0, ByteArray.mk #[])
  | 4 => (2, 0, ByteArray.mk #[97])
  | 5 => (2, 0, ByteArray.mk #[98])
  | 6 => (2, 0, ByteArray.mk #[])
  | 7 => (3, 1, ByteArray.mk #[])
  | 8 => (1, (-1), ByteArray.mk #[])
  | 9 => (2, 0, ByteArray.mk #[97, 98])
  | 10 => (3, 2, ByteArray.mk #[])
  | _ => (1, 7, ByteArray.mk #[])
theorem code_ok (c : Nat) : badV (codeV c) = false := by
  unfold badV validV codeV
  split <;> simp only [ByteArray.toList_eq] <;> rfl

set_option maxHeartbeats 1600000 in
theorem code_any (b : U8) (w : World) : Calls Tryz.prog 52 #[.int .u8 (b.toNat : Int)] w fun e w' => e = .returned (.agg #[.int .i64 (codeV (b.toNat % 12)).1, .int .i64 (codeV (b.toNat % 12)).2.1, .string (codeV (b.toNat % 12)).2.2]) ∧ Below w.heap.size w w' := by
  have hlt : b.toNat % 12 < 12 := Nat.mod_lt _ (by decide)
  have UM2 : (b.toNat : Int) % 12 = ((b.toNat % 12 : Nat) : Int) := by omega
  have hbb : (b.toNat : Int) ≤ 255 := by have := b.isLt; omega
  have hb0 : (0 : Int) ≤ (b.toNat : Int) := by omega
  obtain ⟨K, hK⟩ : ∃ K, b.toNat % 12 = K := ⟨_, rfl⟩
  rw [hK] at UM2 hlt ⊢
  generalize (b.toNat : Int) = bi at *
  clear hK
  have hcases : K = 0 ∨ K = 1 ∨ K = 2 ∨ K = 3 ∨ K = 4 ∨ K = 5 ∨ K = 6 ∨ K = 7 ∨ K = 8 ∨ K = 9 ∨ K = 10 ∨ K = 11 := by omega
  rcases hcases with rfl | rfl | rfl | rfl | rfl | rfl | rfl | rfl | rfl | rfl | rfl | rfl
  · have UM : bi % 12 = 0 := UM2
    clear UM2
    go_enter Tryz.func52, Tryz.ntmps52
    go_wp2_with fail
    have hb := below_alloc w (.cells #[.int .i64 1, .int .i64 0, .string (ByteArray.mk #[])] 89)
    have c := cells3 (w := w) (a := .int .i64 1) (b := .int .i64 0) (c := .string (ByteArray.mk #[])) (t := 89) _ (Below.refl _ _)
    obtain ⟨w1, hw1⟩ : ∃ w1 : World, w.alloc (.cells #[.int .i64 1, .int .i64 0, .string (ByteArray.mk #[])] 89) = w1 := ⟨_, rfl⟩
    rw [hw1] at hb c ⊢
    exact bodyPost_ret (v := .agg #[.int .i64 1, .int .i64 0, .string (ByteArray.mk #[])]) (by simp [results, Tryz.results52, go_sem, c.1, c.2.1, c.2.2]) rfl ⟨rfl, hb⟩
  · have UM : bi % 12 = 1 := UM2
    clear UM2
    go_enter Tryz.func52, Tryz.ntmps52
    go_wp2_with fail
    have hb := below_alloc w (.cells #[.int .i64 1, .int .i64 1, .string (ByteArray.mk #[])] 89)
    have c := cells3 (w := w) (a := .int .i64 1) (b := .int .i64 1) (c := .string (ByteArray.mk #[])) (t := 89) _ (Below.refl _ _)
    obtain ⟨w1, hw1⟩ : ∃ w1 : World, w.alloc (.cells #[.int .i64 1, .int .i64 1, .string (ByteArray.mk #[])] 89) = w1 := ⟨_, rfl⟩
    rw [hw1] at hb c ⊢
    exact bodyPost_ret (v := .agg #[.int .i64 1, .int .i64 1, .string (ByteArray.mk #[])]) (by simp [results, Tryz.results52, go_sem, c.1, c.2.1, c.2.2]) rfl ⟨rfl, hb⟩
  · have UM : bi % 12 = 2 := UM2
    clear UM2
    go_enter Tryz.func52, Tryz.ntmps52
    go_wp2_with fail
    have hb := below_alloc w (.cells #[.int .i64 1, .int .i64 2, .string (ByteArray.mk #[])] 89)
    have c := cells3 (w := w) (a := .int .i64 1) (b := .int .i64 2) (c := .string (ByteArray.mk #[])) (t := 89) _ (Below.refl _ _)
    obtain ⟨w1, hw1⟩ : ∃ w1 : World, w.alloc (.cells #[.int .i64 1, .int .i64 2, .string (ByteArray.mk #[])] 89) = w1 := ⟨_, rfl⟩
    rw [hw1] at hb c ⊢
    exact bodyPost_ret (v := .agg #[.int .i64 1, .int .i64 2, .string (ByteArray.mk #[])]) (by simp [results, Tryz.results52, go_sem, c.1, c.2.1, c.2.2]) rfl ⟨rfl, hb⟩
  · have UM : bi % 12 = 3 := UM2
    clear UM2
    go_enter Tryz.func52, Tryz.ntmps52
    go_wp2_with fail
    have hb := below_alloc w (.cells #[.int .i64 0, .int .i64 0, .string (ByteArray.mk #[])] 89)
    have c := cells3 (w := w) (a := .int .i64 0) (b := .int .i64 0) (c := .string (ByteArray.mk #[])) (t := 89) _ (Below.refl _ _)
    obtain ⟨w1, hw1⟩ : ∃ w1 : World, w.alloc (.cells #[.int .i64 0, .int .i64 0, .string (ByteArray.mk #[])] 89) = w1 := ⟨_, rfl⟩
    rw [hw1] at hb c ⊢
    exact bodyPost_ret (v := .agg #[.int .i64 0, .int .i64 0, .string (ByteArray.mk #[])]) (by simp [results, Tryz.results52, go_sem, c.1, c.2.1, c.2.2]) rfl ⟨rfl, hb⟩
  · have UM : bi % 12 = 4 := UM2
    clear UM2
    go_enter Tryz.func52, Tryz.ntmps52
    go_wp2_with fail
    have hb := below_alloc w (.cells #[.int .i64 2, .int .i64 0, .string (ByteArray.mk #[97])] 89)
    have c := cells3 (w := w) (a := .int .i64 2) (b := .int .i64 0) (c := .string (ByteArray.mk #[97])) (t := 89) _ (Below.refl _ _)
    obtain ⟨w1, hw1⟩ : ∃ w1 : World, w.alloc (.cells #[.int .i64 2, .int .i64 0, .string (ByteArray.mk #[97])] 89) = w1 := ⟨_, rfl⟩
    rw [hw1] at hb c ⊢
    exact bodyPost_ret (v := .agg #[.int .i64 2, .int .i64 0, .string (ByteArray.mk #[97])]) (by simp [results, Tryz.results52, go_sem, c.1, c.2.1, c.2.2]) rfl ⟨rfl, hb⟩
  · have UM : bi % 12 = 5 := UM2
    clear UM2
    go_enter Tryz.func52, Tryz.ntmps52
    go_wp2_with fail
    have hb := below_alloc w (.cells #[.int .i64 2, .int .i64 0, .string (ByteArray.mk #[98])] 89)
    have c := cells3 (w := w) (a := .int .i64 2) (b := .int .i64 0) (c := .string (ByteArray.mk #[98])) (t := 89) _ (Below.refl _ _)
    obtain ⟨w1, hw1⟩ : ∃ w1 : World, w.alloc (.cells #[.int .i64 2, .int .i64 0, .string (ByteArray.mk #[98])] 89) = w1 := ⟨_, rfl⟩
    rw [hw1] at hb c ⊢
    exact bodyPost_ret (v := .agg #[.int .i64 2, .int .i64 0, .string (ByteArray.mk #[98])]) (by simp [results, Tryz.results52, go_sem, c.1, c.2.1, c.2.2]) rfl ⟨rfl, hb⟩
  · have UM : bi % 12 = 6 := UM2
    clear UM2
    go_enter Tryz.func52, Tryz.ntmps52
    go_wp2_with fail
    have hb := below_alloc w (.cells #[.int .i64 2, .int .i64 0, .string (ByteArray.mk #[])] 89)
    have c := cells3 (w := w) (a := .int .i64 2) (b := .int .i64 0) (c := .string (ByteArray.mk #[])) (t := 89) _ (Below.refl _ _)
    obtain ⟨w1, hw1⟩ : ∃ w1 : World, w.alloc (.cells #[.int .i64 2, .int .i64 0, .string (ByteArray.mk #[])] 89) = w1 := ⟨_, rfl⟩
    rw [hw1] at hb c ⊢
    exact bodyPost_ret (v := .agg #[.int .i64 2, .int .i64 0, .string (ByteArray.mk #[])]) (by simp [results, Tryz.results52, go_sem, c.1, c.2.1, c.2.2]) rfl ⟨rfl, hb⟩
  · have UM : bi % 12 = 7 := UM2
    clear UM2
    go_enter Tryz.func52, Tryz.ntmps52
    go_wp2_with fail
    have hb := below_alloc w (.cells #[.int .i64 3, .int .i64 1, .string (ByteArray.mk #[])] 89)
    have c := cells3 (w := w) (a := .int .i64 3) (b := .int .i64 1) (c := .string (ByteArray.mk #[])) (t := 89) _ (Below.refl _ _)
    obtain ⟨w1, hw1⟩ : ∃ w1 : World, w.alloc (.cells #[.int .i64 3, .int .i64 1, .string (ByteArray.mk #[])] 89) = w1 := ⟨_, rfl⟩
    rw [hw1] at hb c ⊢
    exact bodyPost_ret (v := .agg #[.int .i64 3, .int .i64 1, .string (ByteArray.mk #[])]) (by simp [results, Tryz.results52, go_sem, c.1, c.2.1, c.2.2]) rfl ⟨rfl, hb⟩
  · have UM : bi % 12 = 8 := UM2
    clear UM2
    go_enter Tryz.func52, Tryz.ntmps52
    go_wp2_with fail
    have hb := below_alloc w (.cells #[.int .i64 1, .int .i64 (-1), .string (ByteArray.mk #[])] 89)
    have c := cells3 (w := w) (a := .int .i64 1) (b := .int .i64 (-1)) (c := .string (ByteArray.mk #[])) (t := 89) _ (Below.refl _ _)
    obtain ⟨w1, hw1⟩ : ∃ w1 : World, w.alloc (.cells #[.int .i64 1, .int .i64 (-1), .string (ByteArray.mk #[])] 89) = w1 := ⟨_, rfl⟩
    rw [hw1] at hb c ⊢
    exact bodyPost_ret (v := .agg #[.int .i64 1, .int .i64 (-1), .string (ByteArray.mk #[])]) (by simp [results, Tryz.results52, go_sem, c.1, c.2.1, c.2.2]) rfl ⟨rfl, hb⟩
  · have UM : bi % 12 = 9 := UM2
    clear UM2
    go_enter Tryz.func52, Tryz.ntmps52
    go_wp2_with fail
    have hb := below_alloc w (.cells #[.int .i64 2, .int .i64 0, .string (ByteArray.mk #[97, 98])] 89)
    have c := cells3 (w := w) (a := .int .i64 2) (b := .int .i64 0) (c := .string (ByteArray.mk #[97, 98])) (t := 89) _ (Below.refl _ _)
    obtain ⟨w1, hw1⟩ : ∃ w1 : World, w.alloc (.cells #[.int .i64 2, .int .i64 0, .string (ByteArray.mk #[97, 98])] 89) = w1 := ⟨_, rfl⟩
    rw [hw1] at hb c ⊢
    exact bodyPost_ret (v := .agg #[.int .i64 2, .int .i64 0, .string (ByteArray.mk #[97, 98])]) (by simp [results, Tryz.results52, go_sem, c.1, c.2.1, c.2.2]) rfl ⟨rfl, hb⟩
  · have UM : bi % 12 = 10 := UM2
    clear UM2
    go_enter Tryz.func52, Tryz.ntmps52
    go_wp2_with fail
    have hb := below_alloc w (.cells #[.int .i64 3, .int .i64 2, .string (ByteArray.mk #[])] 89)
    have c := cells3 (w := w) (a := .int .i64 3) (b := .int .i64 2) (c := .string (ByteArray.mk #[])) (t := 89) _ (Below.refl _ _)
    obtain ⟨w1, hw1⟩ : ∃ w1 : World, w.alloc (.cells #[.int .i64 3, .int .i64 2, .string (ByteArray.mk #[])] 89) = w1 := ⟨_, rfl⟩
    rw [hw1] at hb c ⊢
    exact bodyPost_ret (v := .agg #[.int .i64 3, .int .i64 2, .string (ByteArray.mk #[])]) (by simp [results, Tryz.results52, go_sem, c.1, c.2.1, c.2.2]) rfl ⟨rfl, hb⟩
  · have UM : bi % 12 = 11 := UM2
    clear UM2
    go_enter Tryz.func52, Tryz.ntmps52
    go_wp2_with fail
    have hb := below_alloc w (.cells #[.int .i64 1, .int .i64 7, .string (ByteArray.mk #[])] 89)
    have c := cells3 (w := w) (a := .int .i64 1) (b := .int .i64 7) (c := .string (ByteArray.mk #[])) (t := 89) _ (Below.refl _ _)
    obtain ⟨w1, hw1⟩ : ∃ w1 : World, w.alloc (.cells #[.int .i64 1, .int .i64 7, .string (ByteArray.mk #[])] 89) = w1 := ⟨_, rfl⟩
    rw [hw1] at hb c ⊢
    exact bodyPost_ret (v := .agg #[.int .i64 1, .int .i64 7, .string (ByteArray.mk #[])]) (by simp [results, Tryz.results52, go_sem, c.1, c.2.1, c.2.2]) rfl ⟨rfl, hb⟩

end Go.Proofs.YtgahpgmagfngfaaGreatDoor


/- Plain laws of agree sets: they decide the dependencies of a table; the difference sets do too. No program. -/
namespace Go.Proofs.YtgahpgmagfngfaaGreatDoor
open Go.RowKit Go.Lib
set_option linter.unusedSimpArgs false

theorem eqV_refl (x : V3) : eqV x x = true := by unfold eqV eqT; simp
theorem eqV_iff (x y : V3) : eqV x y = true ↔ x.1 = y.1 ∧ x.2.1 = y.2.1 ∧ x.2.2.toList = y.2.2.toList := by
  unfold eqV eqT; simp [and_assoc]
theorem eqV_comm (x y : V3) : eqV x y = eqV y x := by
  rw [Bool.eq_iff_iff, eqV_iff, eqV_iff]
  exact ⟨fun ⟨a, b, c⟩ => ⟨a.symm, b.symm, c.symm⟩, fun ⟨a, b, c⟩ => ⟨a.symm, b.symm, c.symm⟩⟩
theorem rowsS_get (xs ys : List V3) (k i : Nat) (hi : i < 32) : (rowsS xs ys k).getLsbD i = (decide (i < k) && eqV (xs.getD i noV) (ys.getD i noV)) := by
  induction k with
  | zero => simp [rowsS]
  | succ k ih =>
    unfold rowsS
    cases hq : eqV (xs.getD k noV) (ys.getD k noV) with
    | false =>
      rw [if_neg (by simp), ih]
      by_cases h1 : i < k
      · simp [h1, show i < k + 1 by omega]
      · by_cases h2 : i = k
        · subst h2; rw [hq]; simp
        · simp [h1, show ¬ i < k + 1 by omega]
    | true =>
      rw [if_pos rfl, BitVec.getLsbD_or, ih, show (1#32 <<< k) = bit k from rfl, bit_get k i hi]
      by_cases h1 : i < k
      · simp [h1, show i < k + 1 by omega, show i ≠ k by omega]
      · by_cases h2 : i = k
        · subst h2; rw [hq]; simp
        · simp [h1, h2, show ¬ i < k + 1 by omega]
theorem rowsS_comm (xs ys : List V3) (k : Nat) : rowsS xs ys k = rowsS ys xs k := bv_ext fun i hi => by
  rw [rowsS_get _ _ _ _ hi, rowsS_get _ _ _ _ hi, eqV_comm]
theorem rowsS_self (xs : List V3) (k : Nat) : rowsS xs xs k = fullN k := bv_ext fun i hi => by
  rw [rowsS_get _ _ _ _ hi, fullN_get _ _ hi, eqV_refl, Bool.and_true]
theorem full_le {s : S} {m i : Nat} (h : sub s (fullN m)) (hi : i < 32) (hs : s.getLsbD i = true) : i < m := by
  have := h i hi hs
  rw [fullN_get _ _ hi, decide_eq_true_iff] at this; exact this
theorem agB_sub {xs ys : List V3} {m : Nat} (hx : xs.length = m) (hy : ys.length = m) (h32 : m ≤ 32) {s : S} (hs : sub s (fullN m)) : agB xs ys s = true ↔ sub s (rowsS xs ys m) := by
  unfold agB
  rw [agB_iff s xs.length (Nat.le_refl _) (by omega) (by omega), hx]
  constructor
  · intro h i hi hb; exact h i (full_le hs hi hb) hb
  · intro h i hi hb; exact h i (by omega) hb

theorem mem_pairsS : ∀ {rs : List Row3} {s : S}, s ∈ pairsS rs ↔ ∃ (i k : Nat) (r q : Row3), i < k ∧ rs[i]? = some r ∧ rs[k]? = some q ∧ s = rowsS r.2.2 q.2.2 r.2.2.length := by
  intro rs
  induction rs with
  | nil => intro s; simp [pairsS]
  | cons x xs ih =>
    intro s
    unfold pairsS
    rw [List.mem_append, ih]
    constructor
    · rintro (h | ⟨i, k, r, q, hik, hr, hq, e⟩)
      · obtain ⟨q, hq, e⟩ := List.mem_map.1 h
        obtain ⟨k, hk⟩ := List.mem_iff_getElem?.1 hq
        exact ⟨0, k + 1, x, q, by omega, rfl, by simpa using hk, e.symm⟩
      · exact ⟨i + 1, k + 1, r, q, by omega, by simpa using hr, by simpa using hq, e⟩
    · rintro ⟨i, k, r, q, hik, hr, hq, e⟩
      obtain ⟨k, rfl⟩ : ∃ m, k = m + 1 := ⟨k - 1, by omega⟩
      cases i with
      | zero =>
        simp at hr hq; subst hr
        exact .inl (List.mem_map.2 ⟨q, List.mem_of_getElem? hq, e.symm⟩)
      | succ i => exact .inr ⟨i, k, r, q, by omega, by simpa using hr, by simpa using hq, e⟩

/-- All rows have m values. -/
def Wide (m : Nat) (rs : List Row3) : Prop := ∀ r ∈ rs, r.2.2.length = m
theorem mem_pairsW {m : Nat} {rs : List Row3} (hw : Wide m rs) {s : S} : s ∈ pairsS rs ↔ ∃ (i k : Nat) (r q : Row3), i < k ∧ rs[i]? = some r ∧ rs[k]? = some q ∧ s = rowsS r.2.2 q.2.2 m := by
  rw [mem_pairsS]
  constructor
  · rintro ⟨i, k, r, q, h1, h2, h3, h4⟩
    exact ⟨i, k, r, q, h1, h2, h3, by rw [h4, hw r (List.mem_of_getElem? h2)]⟩
  · rintro ⟨i, k, r, q, h1, h2, h3, h4⟩
    exact ⟨i, k, r, q, h1, h2, h3, by rw [h4, hw r (List.mem_of_getElem? h2)]⟩
/-- What holds of the agree sets of all pairs holds of any two rows, if it holds of the full set. -/
theorem pairs_all {m : Nat} {rs : List Row3} (hw : Wide m rs) (P : S → Prop) (hf : P (fullN m)) : (∀ s ∈ pairsS rs, P s) ↔ ∀ r ∈ rs, ∀ q ∈ rs, P (rowsS r.2.2 q.2.2 m) := by
  constructor
  · intro h r hr q hq
    obtain ⟨i, hi⟩ := List.mem_iff_getElem?.1 hr
    obtain ⟨k, hk⟩ := List.mem_iff_getElem?.1 hq
    rcases Nat.lt_trichotomy i k with hlt | rfl | hgt
    · exact h _ ((mem_pairsW hw).2 ⟨i, k, r, q, hlt, hi, hk, rfl⟩)
    · have e : r = q := by rw [hi] at hk; exact Option.some.inj hk
      rw [e, rowsS_self]; exact hf
    · rw [rowsS_comm]; exact h _ ((mem_pairsW hw).2 ⟨k, i, q, r, hgt, hk, hi, rfl⟩)
  · intro h s hs
    obtain ⟨i, k, r, q, _, hr, hq, rfl⟩ := (mem_pairsW hw).1 hs
    exact h r (List.mem_of_getElem? hr) q (List.mem_of_getElem? hq)

theorem satB_iff {m : Nat} {rs : List Row3} (hw : Wide m rs) (h32 : m ≤ 32) {f : F} (h1 : sub f.1 (fullN m)) (h2 : sub f.2 (fullN m)) : satB rs f = true ↔ ∀ s ∈ pairsS rs, sub f.1 s → sub f.2 s := by
  rw [pairs_all hw (fun s => sub f.1 s → sub f.2 s) (fun _ => h2)]
  unfold satB
  rw [List.all_eq_true]
  constructor
  · intro h r hr q hq hs
    have := List.all_eq_true.1 (h r hr) q hq
    unfold satR at this
    rw [Bool.or_eq_true, Bool.not_eq_true', agB_sub (hw r hr) (hw q hq) h32 h2] at this
    rcases this with h3 | h3
    · rw [Bool.eq_false_iff, ne_eq, agB_sub (hw r hr) (hw q hq) h32 h1] at h3
      exact absurd hs h3
    · exact h3
  · intro h r hr
    rw [List.all_eq_true]
    intro q hq
    unfold satR
    rw [Bool.or_eq_true, Bool.not_eq_true', agB_sub (hw r hr) (hw q hq) h32 h2]
    by_cases hs : sub f.1 (rowsS r.2.2 q.2.2 m)
    · exact .inr (h r hr q hq hs)
    · refine .inl ?_
      rw [Bool.eq_false_iff, ne_eq, agB_sub (hw r hr) (hw q hq) h32 h1]; exact hs

theorem bit_le {i : Nat} {s : S} (hi : i < 32) : sub (bit i) s ↔ s.getLsbD i = true := by
  constructor
  · intro h; exact h i hi (by rw [bit_get i i hi]; simp)
  · intro h k hk hb
    rw [bit_get i k hk, decide_eq_true_iff] at hb
    rw [hb]; exact h
theorem bit_full {i m : Nat} (h : i < m) (h32 : m ≤ 32) : sub (bit i) (fullN m) := (bit_le (by omega)).2 (by rw [fullN_get _ _ (by omega)]; simpa using h)


end Go.Proofs.YtgahpgmagfngfaaGreatDoor


/- The bytes of a value's key, and that a row of keys tells the row of values. No program. -/
namespace Go.Proofs.YtgahpgmagfngfaaGreatDoor
open Go.RowKit
set_option linter.unusedSimpArgs false

/-- The number that is written in eight bytes. -/
def numU (n : Int) : Nat := (n + 9223372036854775808).toNat
def byteU (u : Nat) (k : Nat) : UInt8 := UInt8.ofNat (u / 256 ^ k)
def numB (n : Int) : List UInt8 := [byteU (numU n) 7, byteU (numU n) 6, byteU (numU n) 5, byteU (numU n) 4, byteU (numU n) 3, byteU (numU n) 2, byteU (numU n) 1, byteU (numU n) 0]
def chB (b : UInt8) : List UInt8 := if b = 0 then [0, 255] else [b]
def chsB (s : List UInt8) : List UInt8 := s.flatMap chB
def txtB (s : List UInt8) : List UInt8 := chsB s ++ [0, 1]
def keyB (x : V3) : List UInt8 := UInt8.ofNat x.1.toNat :: (if x.1 = 1 ∨ x.1 = 3 then numB x.2.1 else if x.1 = 2 then txtB x.2.2.toList else [])
def keysB (xs : List V3) : List UInt8 := xs.flatMap keyB
/-- A value as it lies in a table: valid, its number one of 64 bits. -/
def okV (x : V3) : Prop := validV x = true ∧ -9223372036854775808 ≤ x.2.1 ∧ x.2.1 < 9223372036854775808

theorem byteU_nat (u k : Nat) : (byteU u k).toNat = u / 256 ^ k % 256 := by unfold byteU; simp
theorem numB_inj {m n : Int} (hm : -9223372036854775808 ≤ m ∧ m < 9223372036854775808) (hn : -9223372036854775808 ≤ n ∧ n < 9223372036854775808) (h : numB m = numB n) : m = n := by
  unfold numB at h
  simp only [List.cons.injEq, and_true] at h
  obtain ⟨h7, h6, h5, h4, h3, h2, h1, h0⟩ := h
  have q : ∀ k, byteU (numU m) k = byteU (numU n) k → numU m / 256 ^ k % 256 = numU n / 256 ^ k % 256 := fun k e => by
    rw [← byteU_nat, ← byteU_nat, e]
  have b1 : numU m < 18446744073709551616 := by unfold numU; omega
  have b2 : numU n < 18446744073709551616 := by unfold numU; omega
  have q2 : ∀ k, k ≤ 8 → numU m % 256 ^ k = numU n % 256 ^ k := by
    intro k
    induction k with
    | zero => intro _; simp [Nat.mod_one]
    | succ k ih =>
      intro hk
      rw [Nat.mod_pow_succ, Nat.mod_pow_succ, ih (by omega)]
      have : numU m / 256 ^ k % 256 = numU n / 256 ^ k % 256 := by
        rcases (show k = 0 ∨ k = 1 ∨ k = 2 ∨ k = 3 ∨ k = 4 ∨ k = 5 ∨ k = 6 ∨ k = 7 by omega) with rfl | rfl | rfl | rfl | rfl | rfl | rfl | rfl
        · exact q _ h0
        · exact q _ h1
        · exact q _ h2
        · exact q _ h3
        · exact q _ h4
        · exact q _ h5
        · exact q _ h6
        · exact q _ h7
      rw [this]
  have this := q2 8 (Nat.le_refl _)
  rw [Nat.mod_eq_of_lt (by simpa using b1), Nat.mod_eq_of_lt (by simpa using b2)] at this
  unfold numU at this
  omega
theorem chsB_cons (c : UInt8) (s : List UInt8) : chsB (c :: s) = chB c ++ chsB s := rfl
theorem txtB_inj : ∀ (s t : List UInt8) (a b : List UInt8), txtB s ++ a = txtB t ++ b → s = t ∧ a = b := by
  intro s
  induction s with
  | nil =>
    intro t a b h
    cases t with
    | nil => simpa [txtB, chsB] using h
    | cons c t =>
      exfalso
      unfold txtB at h
      rw [chsB_cons] at h
      unfold chB at h
      by_cases hc : c = 0
      · rw [if_pos hc] at h; simp [chsB] at h
      · rw [if_neg hc] at h
        simp [chsB] at h
        exact hc h.1.symm
  | cons c s ih =>
    intro t a b h
    cases t with
    | nil =>
      exfalso
      unfold txtB at h
      rw [chsB_cons] at h
      unfold chB at h
      by_cases hc : c = 0
      · rw [if_pos hc] at h; simp [chsB] at h
      · rw [if_neg hc] at h
        simp [chsB] at h
        exact hc h.1
    | cons d t =>
      unfold txtB at h
      rw [chsB_cons, chsB_cons] at h
      have key : c = d := by
        unfold chB at h
        by_cases hc : c = 0
        · rw [if_pos hc] at h
          by_cases hd : d = 0
          · rw [hc, hd]
          · rw [if_neg hd] at h; simp at h; exact absurd h.1.symm hd
        · rw [if_neg hc] at h
          by_cases hd : d = 0
          · rw [if_pos hd] at h; simp at h; exact absurd h.1 hc
          · rw [if_neg hd] at h; simp at h; exact h.1
      subst key
      rw [List.append_assoc, List.append_assoc, List.append_assoc, List.append_assoc] at h
      have h2 := List.append_cancel_left h
      have := ih t a b (by unfold txtB; rw [List.append_assoc, List.append_assoc]; exact h2)
      exact ⟨by rw [this.1], this.2⟩
theorem valid_kind {x : V3} (h : validV x = true) : (x.1 = 0 ∧ x.2.1 = 0 ∧ x.2.2.toList = []) ∨ (x.1 = 1 ∧ x.2.2.toList = []) ∨ (x.1 = 2 ∧ x.2.1 = 0 ∧ x.2.2.size ≤ 200) ∨ (x.1 = 3 ∧ x.2.2.toList = []) := by
  unfold validV at h
  by_cases h0 : x.1 = 0
  · rw [if_pos h0] at h
    simp at h
    exact .inl ⟨h0, h.1, by simpa using h.2⟩
  · rw [if_neg h0] at h
    by_cases h1 : x.1 = 1
    · rw [if_pos h1] at h
      exact .inr (.inl ⟨h1, by simpa using h⟩)
    · rw [if_neg h1] at h
      by_cases h2 : x.1 = 2
      · rw [if_pos h2] at h
        simp at h
        exact .inr (.inr (.inl ⟨h2, h.1, h.2⟩))
      · rw [if_neg h2] at h
        by_cases h3 : x.1 = 3
        · rw [if_pos h3] at h
          simp at h
          exact .inr (.inr (.inr ⟨h3, by simpa using h.2⟩))
        · rw [if_neg h3] at h; cases h
theorem bytes_ext {a b : ByteArray} (h : a.toList = b.toList) : a = b := by
  rw [ByteArray.toList_eq, ByteArray.toList_eq] at h
  obtain ⟨a⟩ := a
  obtain ⟨b⟩ := b
  simp only at h
  rw [Array.toList_inj.1 h]
theorem eqV_eq {x y : V3} : eqV x y = true ↔ x = y := by
  rw [eqV_iff]
  constructor
  · rintro ⟨h1, h2, h3⟩
    obtain ⟨x1, x2, x3⟩ := x
    obtain ⟨y1, y2, y3⟩ := y
    simp only at h1 h2 h3
    rw [h1, h2, bytes_ext h3]
  · rintro rfl; exact ⟨rfl, rfl, rfl⟩
theorem keyB_inj {x y : V3} (hx : okV x) (hy : okV y) {a b : List UInt8} (h : keyB x ++ a = keyB y ++ b) : x = y ∧ a = b := by
  obtain ⟨vx, rx⟩ := hx
  obtain ⟨vy, ry⟩ := hy
  have kx := valid_kind vx
  have ky := valid_kind vy
  unfold keyB at h
  rw [List.cons_append, List.cons_append, List.cons.injEq] at h
  obtain ⟨h0, h⟩ := h
  have hk : x.1 = y.1 := by
    have := congrArg UInt8.toNat h0
    simp at this
    omega
  have fin : x.2.1 = y.2.1 → x.2.2.toList = y.2.2.toList → x = y := fun e1 e2 => eqV_eq.1 (by rw [eqV_iff]; exact ⟨hk, e1, e2⟩)
  rw [← hk] at h
  rcases kx with ⟨k1, k2, k3⟩ | ⟨k1, k3⟩ | ⟨k1, k2, k3⟩ | ⟨k1, k3⟩
  · have ky' : y.2.1 = 0 ∧ y.2.2.toList = [] := by
      rcases ky with ⟨j1, j2, j3⟩ | ⟨j1, j3⟩ | ⟨j1, j2, j3⟩ | ⟨j1, j3⟩ <;> first | exact ⟨j2, j3⟩ | (exfalso; omega)
    rw [if_neg (by omega), if_neg (by omega), if_neg (by omega), if_neg (by omega)] at h
    exact ⟨fin (by rw [k2, ky'.1]) (by rw [k3, ky'.2]), by simpa using h⟩
  · have ky' : y.2.2.toList = [] := by
      rcases ky with ⟨j1, j2, j3⟩ | ⟨j1, j3⟩ | ⟨j1, j2, j3⟩ | ⟨j1, j3⟩ <;> first | exact j3 | (exfalso; omega)
    rw [if_pos (.inl k1), if_pos (.inl k1)] at h
    obtain ⟨e1, e2⟩ := List.append_inj h (by simp [numB])
    exact ⟨fin (numB_inj rx ry e1) (by rw [k3, ky']), e2⟩
  · have ky' : y.2.1 = 0 := by
      rcases ky with ⟨j1, j2, j3⟩ | ⟨j1, j3⟩ | ⟨j1, j2, j3⟩ | ⟨j1, j3⟩ <;> first | exact j2 | (exfalso; omega)
    rw [if_neg (by omega), if_pos k1, if_neg (by omega), if_pos k1] at h
    obtain ⟨e1, e2⟩ := txtB_inj _ _ _ _ h
    exact ⟨fin (by rw [k2, ky']) e1, e2⟩
  · have ky' : y.2.2.toList = [] := by
      rcases ky with ⟨j1, j2, j3⟩ | ⟨j1, j3⟩ | ⟨j1, j2, j3⟩ | ⟨j1, j3⟩ <;> first | exact j3 | (exfalso; omega)
    rw [if_pos (.inr k1), if_pos (.inr k1)] at h
    obtain ⟨e1, e2⟩ := List.append_inj h (by simp [numB])
    exact ⟨fin (numB_inj rx ry e1) (by rw [k3, ky']), e2⟩
theorem keysB_inj : ∀ {xs ys : List V3}, (∀ x ∈ xs, okV x) → (∀ y ∈ ys, okV y) → xs.length = ys.length → keysB xs = keysB ys → xs = ys := by
  intro xs
  induction xs with
  | nil => intro ys _ _ hl _; exact (List.eq_nil_of_length_eq_zero hl.symm).symm
  | cons x xs ih =>
    intro ys hx hy hl h
    cases ys with
    | nil => simp at hl
    | cons y ys =>
      unfold keysB at h
      rw [List.flatMap_cons, List.flatMap_cons] at h
      obtain ⟨e1, e2⟩ := keyB_inj (hx x (by simp)) (hy y (by simp)) h
      rw [e1, ih (fun z hz => hx z (by simp [hz])) (fun z hz => hy z (by simp [hz])) (by simpa using hl) e2]
theorem eqLs_eq : ∀ {xs ys : List V3}, xs.length = ys.length → (eqLs xs ys = true ↔ xs = ys) := by
  intro xs
  induction xs with
  | nil => intro ys hl; rw [List.eq_nil_of_length_eq_zero hl.symm]; simp [eqLs]
  | cons x xs ih =>
    intro ys hl
    cases ys with
    | nil => simp at hl
    | cons y ys =>
      show (eqV x y && eqLs xs ys) = true ↔ _
      rw [Bool.and_eq_true, eqV_eq, ih (by simpa using hl), List.cons.injEq]
theorem agB_eq {xs ys : List V3} {m : Nat} (hx : xs.length = m) (s : S) : agB xs ys s = true ↔ valTo xs s m = valTo ys s m := by
  unfold agB
  rw [hx, eqLs_eq (valTo_same _ _ _ _)]
theorem keyB_length (x : V3) (h : validV x = true) : (keyB x).length ≤ 403 := by
  have hk := valid_kind h
  have hch : ∀ s : List UInt8, (chsB s).length ≤ 2 * s.length := by
    intro s
    induction s with
    | nil => simp [chsB]
    | cons c s ih =>
      rw [chsB_cons, List.length_append, List.length_cons]
      have : (chB c).length ≤ 2 := by unfold chB; split <;> simp
      omega
  unfold keyB
  rw [List.length_cons]
  by_cases h1 : x.1 = 1 ∨ x.1 = 3
  · rw [if_pos h1]; simp [numB]
  · rw [if_neg h1]
    by_cases h2 : x.1 = 2
    · rw [if_pos h2]
      unfold txtB
      rw [List.length_append]
      have h3 : x.2.2.toList.length ≤ 200 := by
        rcases hk with ⟨j1, j2, j3⟩ | ⟨j1, j3⟩ | ⟨j1, j2, j3⟩ | ⟨j1, j3⟩
        · omega
        · omega
        · rw [ByteArray.toList_eq]; simpa using j3
        · omega
      have := hch x.2.2.toList
      simp; omega
    · rw [if_neg h2]; simp

end Go.Proofs.YtgahpgmagfngfaaGreatDoor


/- Plain laws of unique sets: those that no agree set contains; the minimal ones are the minimal transversals of the complements. No program. -/
namespace Go.Proofs.YtgahpgmagfngfaaGreatDoor
open Go.RowKit Go.Lib
set_option linter.unusedSimpArgs false

/-- The complements of some sets. -/
def edgN (m : Nat) (ps : List S) : List S := ps.map fun p => fullN m &&& ~~~ p
theorem hits_edg {m : Nat} {ps : List S} {s : S} (hs : sub s (fullN m)) : hitsS (edgN m ps) s = true ↔ ∀ p ∈ ps, ¬ sub s p := by
  rw [hits_iff]
  unfold edgN
  have key : ∀ p : S, (fullN m &&& ~~~ p) &&& s = 0#32 ↔ sub s p := by
    intro p
    rw [and_zero_iff]
    constructor
    · intro h i hi hb
      cases hp : p.getLsbD i with
      | true => rfl
      | false =>
        have := h i hi (by rw [BitVec.getLsbD_and, BitVec.getLsbD_not, hp, fullN_get m i hi]; simp [hi, full_le hs hi hb])
        rw [hb] at this; cases this
    · intro h i hi hb
      cases hx : s.getLsbD i with
      | false => rfl
      | true =>
        have := h i hi hx
        rw [BitVec.getLsbD_and, BitVec.getLsbD_not, this] at hb; simp at hb
  constructor
  · intro h p hp hsp
    exact h _ (List.mem_map.2 ⟨p, hp, rfl⟩) ((key p).2 hsp)
  · intro h x hx hz
    obtain ⟨p, hp, rfl⟩ := List.mem_map.1 hx
    exact h p hp ((key p).1 hz)
theorem edg_within {m : Nat} {ps : List S} : ∀ x ∈ edgN m ps, ∀ i, i < 32 → m ≤ i → x.getLsbD i = false := by
  intro x hx i hi hm
  obtain ⟨p, _, rfl⟩ := List.mem_map.1 hx
  rw [BitVec.getLsbD_and, fullN_get m i hi]; simp [show ¬ i < m by omega]
theorem min_full {m : Nat} {ps : List S} {s : S} (h : minS (edgN m ps) s = true) : sub s (fullN m) := by
  intro i hi hb
  rw [fullN_get _ _ hi, decide_eq_true_iff]
  apply Classical.byContradiction
  intro hn
  rw [min_within h edg_within i hi (by omega)] at hb; cases hb
/-- The minimal sets of the first m attributes that none of ps contains. -/
def keyN (m : Nat) (ps : List S) : List S := allS (edgN m ps)
theorem keyN_ord (m : Nat) (ps : List S) : IsOrd (keyN m ps) (fun s => minS (edgN m ps) s = true) := allS_ord _
theorem keyN_iff {m : Nat} {ps : List S} {s : S} : minS (edgN m ps) s = true ↔ sub s (fullN m) ∧ (∀ p ∈ ps, ¬ sub s p) ∧ ∀ t, sub t s → (∀ p ∈ ps, ¬ sub t p) → t = s := by
  constructor
  · intro h
    have hf := min_full h
    obtain ⟨h1, h2⟩ := minS_iff.1 h
    exact ⟨hf, (hits_edg hf).1 h1, fun t ht hp => h2 t ht ((hits_edg (sub_trans ht hf)).2 hp)⟩
  · rintro ⟨h1, h2, h3⟩
    exact minS_iff.2 ⟨(hits_edg h1).2 h2, fun t ht hh => h3 t ht ((hits_edg (sub_trans ht h1)).1 hh)⟩
theorem keyN_congr {m : Nat} {ps qs : List S} (h : ∀ s, sub s (fullN m) → ((∀ p ∈ ps, ¬ sub s p) ↔ ∀ p ∈ qs, ¬ sub s p)) : keyN m ps = keyN m qs := by
  refine (keyN_ord m ps).uniq (keyN_ord m qs) fun s => ?_
  rw [keyN_iff, keyN_iff]
  constructor
  · rintro ⟨a, b, c⟩
    exact ⟨a, (h s a).1 b, fun t ht hp => c t ht ((h t (sub_trans ht a)).2 hp)⟩
  · rintro ⟨a, b, c⟩
    exact ⟨a, (h s a).2 b, fun t ht hp => c t ht ((h t (sub_trans ht a)).1 hp)⟩
theorem keyN_uni {m : Nat} {ps : List S} {k : S} (h : k ∈ keyN m ps) : sub k (fullN m) ∧ ∀ p ∈ ps, ¬ sub k p := by
  have := keyN_iff.1 (((keyN_ord m ps).2 k).1 h)
  exact ⟨this.1, this.2.1⟩
/-- Each set is contained in a maximal one. -/
theorem max_above (l : List S) : ∀ (n : Nat) (g : S), 32 - pop g ≤ n → g ∈ l → ∃ f, isMax l f ∧ sub g f := by
  intro n
  induction n with
  | zero =>
    intro g hn hg
    refine ⟨g, ⟨hg, fun f hf hgf => ?_⟩, sub_refl g⟩
    apply Classical.byContradiction
    intro hne
    have := sub_pop_lt hgf (fun e => hne e.symm)
    have := pop_le f
    omega
  | succ n ih =>
    intro g hn hg
    by_cases h : ∃ f ∈ l, sub g f ∧ f ≠ g
    · obtain ⟨f, hf, hgf, hne⟩ := h
      have := sub_pop_lt hgf (fun e => hne e.symm)
      have := pop_le f
      obtain ⟨f2, h2, h3⟩ := ih f (by omega) hf
      exact ⟨f2, h2, sub_trans hgf h3⟩
    · refine ⟨g, ⟨hg, fun f hf hgf => ?_⟩, sub_refl g⟩
      apply Classical.byContradiction
      intro hne
      exact h ⟨f, hf, hgf, hne⟩
theorem maxs_all {ps : List S} {s : S} : (∀ p ∈ keepS upR ps, ¬ sub s p) ↔ ∀ p ∈ ps, ¬ sub s p := by
  have ho := max_ord ps
  constructor
  · intro h p hp hsp
    obtain ⟨f, hf, hpf⟩ := max_above ps _ p (Nat.le_refl _) hp
    exact h f ((ho.2 f).2 hf) (sub_trans hsp hpf)
  · intro h p hp
    exact h p ((ho.2 p).1 hp).1
theorem keyN_max (m : Nat) (ps : List S) : keyN m (keepS upR ps) = keyN m ps := keyN_congr fun _ _ => maxs_all

/-- A set is unique: the test. -/
def uniB (ps : List S) (s : S) : Bool := !ps.any fun p => s &&& ~~~ p == 0#32
theorem uniB_iff {ps : List S} {s : S} : uniB ps s = true ↔ ∀ p ∈ ps, ¬ sub s p := by
  unfold uniB
  rw [Bool.not_eq_true', Bool.eq_false_iff, ne_eq, List.any_eq_true]
  constructor
  · intro h p hp hs
    exact h ⟨p, hp, by rw [beq_iff_eq, andNot_zero_iff]; exact hs⟩
  · rintro h ⟨p, hp, hs⟩
    rw [beq_iff_eq, andNot_zero_iff] at hs
    exact h p hp hs
/-- Trying all sets, whatever their order, and keeping the minimal ones. -/
theorem keyN_min {m : Nat} {ps l : List S} (h : ∀ s, s ∈ l ↔ sub s (fullN m) ∧ uniB ps s = true) : keepS downR l = keyN m ps := by
  refine (min_ord l).uniq (keyN_ord m ps) fun s => ?_
  rw [keyN_iff]
  unfold isMin
  constructor
  · rintro ⟨h1, h2⟩
    obtain ⟨a, b⟩ := (h s).1 h1
    exact ⟨a, uniB_iff.1 b, fun t ht hp => h2 t ((h t).2 ⟨sub_trans ht a, uniB_iff.2 hp⟩) ht⟩
  · rintro ⟨a, b, c⟩
    exact ⟨(h s).2 ⟨a, uniB_iff.2 b⟩, fun f hf hs => c f hs (uniB_iff.1 ((h f).1 hf).2)⟩
/-- One after the other, in order: those that none contains and that contain none of the earlier ones. -/
def unqStep (ps : List S) (out : List S) (s : S) : List S := if (!ps.any fun x => s &&& ~~~ x == 0#32) && !out.any (fun x => x &&& ~~~ s == 0#32) then out ++ [s] else out
def unqL (ps l : List S) : List S := l.foldl (unqStep ps) []
theorem unqL_next {ps l : List S} {k : Nat} {s : S} (h : l[k]? = some s) : unqL ps (l.take (k + 1)) = unqStep ps (unqL ps (l.take k)) s := by
  unfold unqL; rw [take_next h, List.foldl_append]; rfl
theorem unqL_red (ps : List S) : ∀ (l out : List S), l.foldl (unqStep ps) out = (l.filter (uniB ps)).foldl redStep out := by
  intro l
  induction l with
  | nil => intro out; rfl
  | cons x l ih =>
    intro out
    rw [List.foldl_cons, List.filter_cons]
    have e : ∀ out : List S, (out.any fun f => f &&& ~~~ x == 0#32) = out.any fun f => f &&& x == f := by
      intro out
      congr 1
      funext f
      rw [Bool.eq_iff_iff, beq_iff_eq, beq_iff_eq, andNot_zero_iff, and_self_iff]
    cases hu : uniB ps x with
    | false =>
      rw [if_neg (by simp), ← ih]
      congr 1
      unfold unqStep
      rw [if_neg]
      rw [show (!ps.any fun p => x &&& ~~~ p == 0#32) = false from hu]
      simp
    | true =>
      rw [if_pos rfl, List.foldl_cons, ← ih]
      congr 1
      unfold unqStep redStep
      rw [show (!ps.any fun p => x &&& ~~~ p == 0#32) = true from hu, e]
      cases (out.any fun f => f &&& x == f) <;> simp
theorem unqL_key {m : Nat} {ps l : List S} (h : IsOrd l (fun s => sub s (fullN m))) : unqL ps l = keyN m ps := by
  have hf := h.filter (uniB ps)
  have h1 : unqL ps l = redL (l.filter (uniB ps)) := unqL_red ps l []
  have h2 := redL_ord (l := l.filter (uniB ps)) (hf.1.imp fun h => bef_asymm h) _ (Nat.le_refl _)
  rw [List.take_length] at h2
  rw [h1, h2.uniq (min_ord (l.filter (uniB ps))) fun _ => Iff.rfl]
  exact keyN_min fun s => hf.2 s
theorem unqL_length (ps l : List S) : (unqL ps l).length ≤ l.length := by
  unfold unqL
  have : ∀ (l out : List S), (l.foldl (unqStep ps) out).length ≤ out.length + l.length := by
    intro l
    induction l with
    | nil => intro out; simp
    | cons x l ih =>
      intro out
      rw [List.foldl_cons, List.length_cons]
      refine Nat.le_trans (ih _) ?_
      have : (unqStep ps out x).length ≤ out.length + 1 := by
        unfold unqStep; split <;> simp
      omega
  have := this l []
  simpa using this

theorem keyN_bound {m : Nat} (hm : m ≤ 16) (ps : List S) : (keyN m ps).length ≤ 65536 := by
  refine Nat.le_trans (ord_bound (n := 2 ^ m) (keyN_ord m ps).1 fun s hs => lt_of_bits fun i hi hmi => ?_) (by
    have := Nat.pow_le_pow_right (show 0 < 2 by decide) hm
    simpa using this)
  have := (keyN_uni hs).1 i hi
  rw [fullN_get _ _ hi] at this
  cases h : s.getLsbD i with
  | false => rfl
  | true => have := this h; rw [decide_eq_true_iff] at this; omega

end Go.Proofs.YtgahpgmagfngfaaGreatDoor


/- Plain laws of grouping by a key: one after the other, by a map from keys to places; and the reference's way. No program. -/
namespace Go.Proofs.YtgahpgmagfngfaaGreatDoor
open Go.RowKit
set_option linter.unusedSimpArgs false
set_option linter.unusedSectionVars false

theorem nodup_idx {α : Type} {l : List α} (h : l.Nodup) {i j : Nat} {x : α} (hi : l[i]? = some x) (hj : l[j]? = some x) : i = j := by
  obtain ⟨p1, p2⟩ := List.getElem?_eq_some_iff.1 hi
  obtain ⟨q1, q2⟩ := List.getElem?_eq_some_iff.1 hj
  have hp := List.pairwise_iff_getElem.1 h
  rcases Nat.lt_trichotomy i j with hlt | e | hgt
  · exact absurd (p2.trans q2.symm) (hp i j p1 q1 hlt)
  · exact e
  · exact absurd (q2.trans p2.symm) (hp j i q1 p1 hgt)

section
variable {κ : Type} [DecidableEq κ]
def dedStep (ks : List κ) (k : κ) : List κ := if k ∈ ks then ks else ks ++ [k]
/-- The different keys, by their first place. -/
def dedK (ks : List κ) : List κ := ks.foldl dedStep []
theorem dedK_snoc (ks : List κ) (k : κ) : dedK (ks ++ [k]) = dedStep (dedK ks) k := by unfold dedK; rw [List.foldl_append]; rfl
theorem dedK_facts (ks : List κ) : (∀ k, k ∈ dedK ks ↔ k ∈ ks) ∧ (dedK ks).Nodup := by
  have key : ∀ n, ∀ ks : List κ, ks.length = n → (∀ k, k ∈ dedK ks ↔ k ∈ ks) ∧ (dedK ks).Nodup := by
    intro n
    induction n with
    | zero => intro ks h; rw [List.eq_nil_of_length_eq_zero h]; exact ⟨fun k => Iff.rfl, List.nodup_nil⟩
    | succ n ih =>
      intro ks h
      rcases snoc_cases ks with rfl | ⟨a, y, rfl⟩
      · simp at h
      · obtain ⟨h1, h2⟩ := ih a (by simpa using h)
        rw [dedK_snoc]
        unfold dedStep
        by_cases hy : y ∈ dedK a
        · rw [if_pos hy]
          refine ⟨fun k => ?_, h2⟩
          rw [h1, List.mem_append, List.mem_singleton]
          constructor
          · exact .inl
          · rintro (h | rfl)
            · exact h
            · exact (h1 _).1 hy
        · rw [if_neg hy]
          refine ⟨fun k => by rw [List.mem_append, List.mem_append, h1], ?_⟩
          rw [List.nodup_append]
          exact ⟨h2, by simp, fun a ha b hb e => by rw [List.mem_singleton] at hb; subst hb; subst e; exact hy ha⟩
  exact key _ ks rfl
theorem mem_dedK {ks : List κ} {k : κ} : k ∈ dedK ks ↔ k ∈ ks := (dedK_facts ks).1 k
theorem dedK_nodup (ks : List κ) : (dedK ks).Nodup := (dedK_facts ks).2
theorem dedK_length (ks : List κ) : (dedK ks).length ≤ ks.length := by
  have key : ∀ n, ∀ ks : List κ, ks.length = n → (dedK ks).length ≤ n := by
    intro n
    induction n with
    | zero => intro ks h; rw [List.eq_nil_of_length_eq_zero h]; exact Nat.le_refl _
    | succ n ih =>
      intro ks h
      rcases snoc_cases ks with rfl | ⟨a, y, rfl⟩
      · simp at h
      · have := ih a (by simpa using h)
        rw [dedK_snoc]
        unfold dedStep
        split
        · omega
        · simp; omega
  exact key _ ks rfl
def idsOf (l : List (κ × Int)) (k : κ) : List Int := (l.filter fun p => decide (p.1 = k)).map (·.2)
theorem idsOf_snoc (l : List (κ × Int)) (k k' : κ) (x : Int) : idsOf (l ++ [(k', x)]) k = if k' = k then idsOf l k ++ [x] else idsOf l k := by
  unfold idsOf
  rw [List.filter_append, List.map_append]
  by_cases h : k' = k <;> simp [h]
theorem idsOf_none {l : List (κ × Int)} {k : κ} (h : k ∉ l.map (·.1)) : idsOf l k = [] := by
  unfold idsOf
  rw [List.map_eq_nil_iff, List.filter_eq_nil_iff]
  intro p hp e
  exact h (List.mem_map.2 ⟨p, hp, of_decide_eq_true e⟩)
theorem idsOf_length (l : List (κ × Int)) (k : κ) : (idsOf l k).length ≤ l.length := by
  unfold idsOf; rw [List.length_map]; exact List.length_filter_le _ _
/-- The groups: for each key the numbers that go with it. -/
def grpOf (l : List (κ × Int)) : List (List Int) := (dedK (l.map (·.1))).map (idsOf l)
theorem grpOf_length (l : List (κ × Int)) : (grpOf l).length ≤ l.length := by
  unfold grpOf; rw [List.length_map]; have := dedK_length (l.map (·.1)); rw [List.length_map] at this; exact this
theorem grpOf_bound {l : List (κ × Int)} {g : List Int} (h : g ∈ grpOf l) : g.length ≤ l.length := by
  obtain ⟨k, _, rfl⟩ := List.mem_map.1 h; exact idsOf_length l k
/-- The place of a key among the different ones. -/
def posK (ks : List κ) (k : κ) : Nat := ks.findIdx fun x => decide (x = k)
theorem posK_lt {ks : List κ} {k : κ} (h : k ∈ ks) : posK ks k < ks.length := by
  unfold posK; rw [List.findIdx_lt_length]; exact ⟨k, h, by simp⟩
theorem posK_at {ks : List κ} {k : κ} (h : k ∈ ks) : ks[posK ks k]? = some k := by
  have hlt := posK_lt h
  have := List.findIdx_getElem (xs := ks) (p := fun x => decide (x = k)) (w := hlt)
  rw [List.getElem?_eq_getElem hlt]
  rw [decide_eq_true_iff] at this
  exact congrArg some this
theorem posK_snoc_old {ks : List κ} {k t : κ} (h : t ∈ ks) : posK (ks ++ [k]) t = posK ks t := by
  have := posK_lt h
  unfold posK at *
  rw [List.findIdx_append, if_pos this]
theorem posK_snoc_new {ks : List κ} {k : κ} (h : k ∉ ks) : posK (ks ++ [k]) k = ks.length := by
  unfold posK
  rw [List.findIdx_append, if_neg]
  · simp
  · rw [List.findIdx_lt_length]
    rintro ⟨x, hx, e⟩
    rw [decide_eq_true_iff] at e
    subst e; exact h hx
theorem grpOf_at {l : List (κ × Int)} {k : κ} (h : k ∈ dedK (l.map (·.1))) : (grpOf l)[posK (dedK (l.map (·.1))) k]? = some (idsOf l k) := by
  unfold grpOf; rw [List.getElem?_map, posK_at h]; rfl
theorem grpOf_old {l : List (κ × Int)} {k : κ} (x : Int) (h : k ∈ dedK (l.map (·.1))) : grpOf (l ++ [(k, x)]) = (grpOf l).set (posK (dedK (l.map (·.1))) k) (idsOf l k ++ [x]) ∧ dedK ((l ++ [(k, x)]).map (·.1)) = dedK (l.map (·.1)) := by
  have e : dedK ((l ++ [(k, x)]).map (·.1)) = dedK (l.map (·.1)) := by
    rw [List.map_append, List.map_singleton, dedK_snoc]; unfold dedStep; rw [if_pos h]
  refine ⟨?_, e⟩
  unfold grpOf
  rw [e]
  apply List.ext_getElem?
  intro j
  rw [List.getElem?_map, List.getElem?_set, List.getElem?_map, List.length_map]
  by_cases hj : posK (dedK (l.map (·.1))) k = j
  · rw [if_pos hj, if_pos (posK_lt h)]
    rw [← hj, posK_at h, Option.map_some, idsOf_snoc, if_pos rfl]
  · rw [if_neg hj]
    cases hq : (dedK (l.map (·.1)))[j]? with
    | none => rfl
    | some t =>
      have hne : k ≠ t := by
        rintro rfl
        exact hj (nodup_idx (dedK_nodup (l.map (·.1))) (posK_at h) hq)
      rw [Option.map_some, Option.map_some, idsOf_snoc, if_neg hne]
theorem grpOf_new {l : List (κ × Int)} {k : κ} (x : Int) (h : k ∉ dedK (l.map (·.1))) : grpOf (l ++ [(k, x)]) = grpOf l ++ [[x]] ∧ dedK ((l ++ [(k, x)]).map (·.1)) = dedK (l.map (·.1)) ++ [k] := by
  have e : dedK ((l ++ [(k, x)]).map (·.1)) = dedK (l.map (·.1)) ++ [k] := by
    rw [List.map_append, List.map_singleton, dedK_snoc]; unfold dedStep; rw [if_neg h]
  refine ⟨?_, e⟩
  unfold grpOf
  rw [e, List.map_append, List.map_singleton, idsOf_snoc, if_pos rfl, idsOf_none (fun hm => h (mem_dedK.2 hm))]
  congr 1
  apply List.map_congr_left
  intro t ht
  rw [idsOf_snoc, if_neg]
  rintro rfl; exact h ht
/-- What the map from keys to places holds. -/
def placeV (ks : List κ) (k : κ) : Value := if k ∈ ks then .int .i64 (posK ks k : Nat) else .int .i64 0
theorem placeV_in {ks : List κ} {k : κ} (h : k ∈ ks) : placeV ks k = .int .i64 (posK ks k : Nat) := if_pos h
theorem placeV_new {ks : List κ} {k : κ} (h : k ∉ ks) (t : κ) : (if t = k then Value.int .i64 (ks.length : Nat) else placeV ks t) = placeV (ks ++ [k]) t := by
  unfold placeV
  by_cases e : t = k
  · subst e
    rw [if_pos rfl, if_pos (by simp), posK_snoc_new h]
  · rw [if_neg e]
    by_cases ht : t ∈ ks
    · rw [if_pos ht, if_pos (by simp [ht]), posK_snoc_old ht]
    · rw [if_neg ht, if_neg (by simp [ht, e])]
/-- Keys may be renamed, one to one. -/
theorem grpOf_rename {κ' : Type} [DecidableEq κ'] (φ : κ → κ') : ∀ (l : List (κ × Int)), (∀ p ∈ l, ∀ q ∈ l, φ p.1 = φ q.1 → p.1 = q.1) → grpOf (l.map fun p => (φ p.1, p.2)) = grpOf l ∧ dedK ((l.map fun p => (φ p.1, p.2)).map (·.1)) = (dedK (l.map (·.1))).map φ := by
  have key : ∀ n, ∀ l : List (κ × Int), l.length = n → (∀ p ∈ l, ∀ q ∈ l, φ p.1 = φ q.1 → p.1 = q.1) → dedK ((l.map fun p => (φ p.1, p.2)).map (·.1)) = (dedK (l.map (·.1))).map φ := by
    intro n
    induction n with
    | zero => intro l h _; rw [List.eq_nil_of_length_eq_zero h]; rfl
    | succ n ih =>
      intro l h hi
      rcases snoc_cases l with rfl | ⟨a, ⟨k, x⟩, rfl⟩
      · rfl
      · have ih' := ih a (by simpa using h) (fun p hp q hq => hi p (by simp [hp]) q (by simp [hq]))
        rw [List.map_append, List.map_append, List.map_append, List.map_singleton, List.map_singleton, List.map_singleton, dedK_snoc, dedK_snoc, ih']
        unfold dedStep
        have e : φ k ∈ (dedK (a.map (·.1))).map φ ↔ k ∈ dedK (a.map (·.1)) := by
          constructor
          · intro hm
            obtain ⟨t, ht, he⟩ := List.mem_map.1 hm
            obtain ⟨p, hp, rfl⟩ := List.mem_map.1 (mem_dedK.1 ht)
            have := hi p (by simp [hp]) (k, x) (by simp) he
            rw [show k = p.1 from this.symm]; exact ht
          · exact fun hm => List.mem_map.2 ⟨k, hm, rfl⟩
        by_cases hk : k ∈ dedK (a.map (·.1))
        · rw [if_pos (e.2 hk), if_pos hk]
        · rw [if_neg (fun h => hk (e.1 h)), if_neg hk, List.map_append, List.map_singleton]
  intro l hi
  have hd := key _ l rfl hi
  refine ⟨?_, hd⟩
  unfold grpOf
  rw [hd, List.map_map]
  apply List.map_congr_left
  intro k hk
  obtain ⟨q, hq, rfl⟩ := List.mem_map.1 (mem_dedK.1 hk)
  show idsOf (l.map fun p => (φ p.1, p.2)) (φ q.1) = idsOf l q.1
  unfold idsOf
  rw [List.filter_map, List.map_map]
  have : ∀ l' : List (κ × Int), (∀ p ∈ l', p ∈ l) → (l'.filter ((fun p : κ' × Int => decide (p.1 = φ q.1)) ∘ fun p => (φ p.1, p.2))) = l'.filter fun p => decide (p.1 = q.1) := by
    intro l' hl
    apply List.filter_congr
    intro p hp
    show decide (φ p.1 = φ q.1) = _
    rw [decide_eq_decide]
    exact ⟨hi p (hl p hp) q hq, fun e => by rw [e]⟩
  rw [this l fun _ h => h]
  rfl
/-- The groups of at least two. -/
def bigG (l : List (κ × Int)) : List (List Int) := (grpOf l).filter fun g => decide (2 ≤ g.length)
end

end Go.Proofs.YtgahpgmagfngfaaGreatDoor

