/- slices.Contains and slices.Equal at dependencies. -/
import Derived.Test.YtmlbmdcmedglaaaDoorEqQ
import Derived.Test.YtmlbmdcmedglaaaDoorRef02
import Derived.Test.YtmlbmdcmedglaaaDoorCells
import Derived.Laws.StructEq
import Derived.Deep.QuietTactic
import Derived.BigQuiet
namespace Go.Proofs.YtmlbmdcmedglaaaDoor
open Go.RowKit Go.Shelf Go.Lib

theorem eqlF : EqlAt Tryd.prog 30 (fun x : F => .agg (cF x).toArray) (fun x y => decide (x = y)) := by
  refine ⟨fun x y w => ?_, GuardAt.agg _ (by kernel_rfl)⟩
  have u3 := Tryd.underlying28
  have a3 := Tryd.isAgg28
  have z3 := Tryd.sizeOf28
  have hS : Tryd.prog.underlying 30 = some (.struct (Tryd.prog.fieldsOf 30)) := by kernel_rfl
  have hp : Tryd.prog.stoodInHeld 30 = false := by kernel_rfl
  simp only [cF, enc_eq]
  rw [run_eql_struct, show (10000 : Nat) = 9999 + 1 from rfl, run_equalIn_agg w 9999 30 _ _ hS hp]
  simp only [Program.fieldsOf, Tryd.underlying30]
  go_simp
  obtain ⟨x1, x2⟩ := x
  obtain ⟨y1, y2⟩ := y
  by_cases h1 : x1 = y1 <;> by_cases h2 : x2 = y2 <;> simp [h1, h2]
theorem neqF : NeqAt Tryd.prog 30 (fun x : F => .agg (cF x).toArray) (fun x y => decide (x = y)) := by
  refine ⟨fun x y w => ?_, GuardAt.agg _ (by kernel_rfl)⟩
  have u3 := Tryd.underlying28
  have a3 := Tryd.isAgg28
  have z3 := Tryd.sizeOf28
  have hS : Tryd.prog.underlying 30 = some (.struct (Tryd.prog.fieldsOf 30)) := by kernel_rfl
  have hp : Tryd.prog.stoodInHeld 30 = false := by kernel_rfl
  simp only [cF, enc_eq]
  rw [run_neq_struct, show (10000 : Nat) = 9999 + 1 from rfl, run_equalIn_agg w 9999 30 _ _ hS hp]
  simp only [Program.fieldsOf, Tryd.underlying30]
  go_simp
  obtain ⟨x1, x2⟩ := x
  obtain ⟨y1, y2⟩ := y
  by_cases h1 : x1 = y1 <;> by_cases h2 : x2 = y2 <;> simp [h1, h2]

theorem any_mem (xs : List F) (x : F) : (xs.any fun y => decide (x = y)) = decide (x ∈ xs) := by
  rw [Bool.eq_iff_iff, List.any_eq_true, decide_eq_true_iff]
  constructor
  · rintro ⟨y, hy, h⟩
    rw [decide_eq_true_iff] at h; rw [h]; exact hy
  · intro h; exact ⟨x, h, by simp⟩
theorem get!_of {α : Type} [Inhabited α] {xs : List α} {j : Nat} (h : j < xs.length) : xs[j]? = some xs[j]! := by
  rw [List.getElem!_eq_getElem?_getD, List.getElem?_eq_getElem h]; rfl

theorem containsF_any (xs : List F) (x : F) (v : Value) (w : World) (hv : RdF w v xs) :
    Calls Tryd.prog 86 #[v, .agg #[enc x.1, enc x.2]] w fun e w' => e = .returned (.bool (decide (x ∈ xs))) ∧ Below w.heap.size w w' := by
  obtain ⟨ao, cap, rfl, h1, h2, h3⟩ := hv
  by_cases h0 : 0 < xs.length
  · obtain ⟨b, off, rfl, hb, hc⟩ := h3 h0
    have h := AnyQ.slices_Contains Tryd.containsQ 2 Tryd.isAgg30 Tryd.sizeOf30 cF cF_length _ eqlF b off xs.length cap xs x w (Nat.le_refl _) (by omega)
      (fun j hj i v hi => by
        have hx := get!_of hj
        have := hc (j * 2 + i) v (flat_at cF_length xs j _ i v hx hi)
        rwa [← Nat.add_assoc] at this)
    rw [List.take_length, any_mem] at h
    exact h
  · have hx : xs = [] := List.eq_nil_of_length_eq_zero (by omega)
    subst hx
    clear h3 h0 h1 h2
    have I : ∀ W : World, Calls Tryd.prog 102 #[.slice ao 0 cap, .agg #[enc x.1, enc x.2]] W fun e w' => e = .returned (.int .i64 (-1)) ∧ Below W.heap.size W w' := by
      intro W
      have hb := hid (below_alloc W (.cells #[enc x.1, enc x.2] 30))
      simp only [enc_eq] at hb ⊢
      go_enter Tryd.func102, Tryd.ntmps102
      go_wp2_with fail
      go_loop [8] (fun i => i = .int .i64 0) (fun _ => 0)
      case atStart => rfl
      case round =>
        subst hrel
        go_wp2_with fail
        go_ret
        exact ⟨rfl, hb.out⟩
    have II := hid I
    have hb := hid (below_alloc w (.cells #[enc x.1, enc x.2] 30))
    clear I
    simp only [enc_eq] at II hb ⊢
    go_enter Tryd.func86, Tryd.ntmps86
    go_wp2_with fail
    refine (II.out _).mono ?_
    rintro e w1 ⟨rfl, hb1⟩
    have B := hid (hb.out.trans (hb1.mono hb.out.size))
    clear hb1
    go_wp2_with fail
    go_ret
    exact ⟨rfl, B.out⟩

theorem allEq_dec (xs ys : List F) (h : xs.length = ys.length) : Lib.allEq (fun x y : F => decide (x = y)) xs ys = decide (xs = ys) := by
  induction xs generalizing ys with
  | nil => cases ys with
    | nil => rfl
    | cons y ys => simp at h
  | cons x xs ih => cases ys with
    | nil => simp at h
    | cons y ys =>
      simp only [Lib.allEq]
      rw [ih ys (by simpa using h)]
      by_cases h1 : x = y <;> by_cases h2 : xs = ys <;> simp [h1, h2]
theorem equalF_any (xs ys : List F) (v u : Value) (w : World) (hv : RdF w v xs) (hu : RdF w u ys) :
    Calls Tryd.prog 20 #[v, u] w fun e w' => e = .returned (.bool (decide (xs = ys))) ∧ ∃ q, w' = w.drewN q := by
  obtain ⟨ao, cap, rfl, h1, h2, h3⟩ := hv
  obtain ⟨bo, cbp, rfl, g1, g2, g3⟩ := hu
  by_cases hl : xs.length = ys.length
  · by_cases h0 : 0 < xs.length
    · obtain ⟨b, off, rfl, hb, hc⟩ := h3 h0
      obtain ⟨b', off', rfl, hb', hc'⟩ := g3 (by omega)
      have h := AnyQ.slices_Equal Tryd.equalQ 2 Tryd.isAgg30 Tryd.sizeOf30 cF cF_length _ neqF b off xs.length cap b' off' ys.length cbp xs ys w (Nat.le_refl _) (Nat.le_refl _) (by omega) (by omega)
        (fun j hj i v hi => by
          have := hc (j * 2 + i) v (flat_at cF_length xs j _ i v (get!_of hj) hi)
          rwa [← Nat.add_assoc] at this)
        (fun j hj i v hi => by
          have := hc' (j * 2 + i) v (flat_at cF_length ys j _ i v (get!_of hj) hi)
          rwa [← Nat.add_assoc] at this)
      rw [List.take_length, List.take_length, allEq_dec xs ys hl] at h
      exact h
    · have hx : xs = [] := List.eq_nil_of_length_eq_zero (by omega)
      have hy : ys = [] := List.eq_nil_of_length_eq_zero (by omega)
      subst hx; subst hy
      clear h3 g3 h0 h1 h2 g1 g2 hl
      go_enter Tryd.func20, Tryd.ntmps20
      go_wp2_with fail
      go_loop [13] (fun i => i = .int .i64 0) (fun _ => 0)
      case atStart => rfl
      case round =>
        subst hrel
        go_wp2_with fail
        go_ret
        exact ⟨rfl, 0, rfl⟩
  · have hne : ((xs.length : Int) != (ys.length : Int)) = true := by simp; omega
    go_enter Tryd.func20, Tryd.ntmps20
    go_wp2
    go_ret
    refine ⟨ret_bool ?_, 0, rfl⟩
    symm; rw [decide_eq_false_iff_not]
    rintro rfl; exact hl rfl

end Go.Proofs.YtmlbmdcmedglaaaDoor
