/- slices.Equal at numbers and at sets, slices.Index and Contains at sets. -/
import Derived.Test.YtciamnkalmihcaaDoorGWalk
import Derived.Deep.QuietTactic
import Derived.BigQuiet
namespace Go.Proofs.YtciamnkalmihcaaDoor
open Go.RowKit

theorem equalI_g {α : Type} [DecidableEq α] (g : α → Int) (hg : ∀ x y, g x = g y → x = y) (xs ys : List α) (v u : Value) (w : World) (hv : RdE (fun x => .int .i64 (g x)) w v xs) (hu : RdE (fun x => .int .i64 (g x)) w u ys) :
    Calls Tryd.prog 26 #[v, u] w fun e w' => e = .returned (.bool (decide (xs = ys))) ∧ ∃ q, w' = w.drewN q := by
  obtain ⟨ao, cap, rfl, h1, h2, h3⟩ := hv
  obtain ⟨bo, cbp, rfl, g1, g2, g3⟩ := hu
  by_cases hl : xs.length = ys.length
  · have hne : ((xs.length : Int) != (ys.length : Int)) = false := by simp [hl]
    go_enter Tryd.func26, Tryd.ntmps26
    go_wp2
    go_loopw [13] (fun i wr => ∃ k q : Nat, k ≤ xs.length ∧ i = .int .i64 k ∧ wr = w.drewN q ∧ Hid (xs.take k = ys.take k)) (fun i _ => xs.length - (intOf i).toNat)
    case atStart => exact ⟨0, 0, Nat.zero_le _, rfl, rfl, hid rfl⟩
    case round =>
      obtain ⟨k, q, hk, rfl, rfl, H⟩ := hrel
      by_cases hlt : k < xs.length
      · obtain ⟨b, off, rfl, hb, hc⟩ := h3 (by omega)
        obtain ⟨b', off', rfl, hb', hc'⟩ := g3 (by omega)
        obtain ⟨x, hx⟩ := get_some hlt
        obtain ⟨y, hy⟩ := get_some (show k < ys.length by omega)
        have e1 := hc k x hx
        have e2 := hc' k y hy
        clear hc hc' h3 g3
        have X := hid hx
        have Y := hid hy
        clear hx hy
        go_wp2
        go_quiet (fail)
        go_wp2
        · have hn : (g x != g y) = true := by assumption
          go_ret
          refine ⟨ret_bool ?_, _, World.drewN_drewN _ _ _⟩
          symm; rw [decide_eq_false_iff_not]
          rintro rfl
          have := X.out.symm.trans Y.out
          simp at this; simp [this] at hn
        · have hn : (g x != g y) = false := by assumption
          go_roundw
          case rel => exact ⟨k + 1, _, by omega, by go_num, rfl, hid (by rw [take_next X.out, take_next Y.out, H.out]; simp at hn; rw [hg _ _ hn])⟩
          case measure => simp [intOf]; omega
      · go_wp2
        go_ret
        refine ⟨ret_bool ?_, _, rfl⟩
        symm; rw [decide_eq_true_iff]
        have := H.out
        rwa [List.take_of_length_le (by omega), List.take_of_length_le (by omega)] at this
  · have hne : ((xs.length : Int) != (ys.length : Int)) = true := by simp; omega
    go_enter Tryd.func26, Tryd.ntmps26
    go_wp2
    go_ret
    refine ⟨ret_bool ?_, 0, rfl⟩
    symm; rw [decide_eq_false_iff_not]
    rintro rfl; exact hl rfl


theorem equalI_any (xs ys : List Nat) (v u : Value) (w : World) (hv : RdE encI w v xs) (hu : RdE encI w u ys) :
    Calls Tryd.prog 26 #[v, u] w fun e w' => e = .returned (.bool (decide (xs = ys))) ∧ ∃ q, w' = w.drewN q :=
  equalI_g (fun n : Nat => (n : Int)) (fun _ _ h => Int.ofNat_inj.1 h) xs ys v u w hv hu

/-- Where a set stands in a list first, or -1. -/
def idxS (xs : List S) (s : S) : Int := match xs.findIdx? (s == ·) with
  | none => -1
  | some i => i
theorem idxS_none {xs : List S} {s : S} (h : xs.any (s == ·) = false) : idxS xs s = -1 := by
  have : xs.findIdx? (s == ·) = none := by
    rw [List.findIdx?_eq_none_iff]
    intro x hx
    rw [List.any_eq_false] at h
    simpa using h x hx
  unfold idxS; rw [this]
theorem idxS_hit {xs : List S} {s x : S} {k : Nat} (hf : xs[k]? = some x) (h : (s == x) = true) (hn : (xs.take k).any (s == ·) = false) : idxS xs s = k := by
  obtain ⟨hk, rfl⟩ := List.getElem?_eq_some_iff.1 hf
  have : xs.findIdx? (s == ·) = some k := by
    rw [List.findIdx?_eq_some_iff_getElem]
    refine ⟨hk, h, fun j hj => ?_⟩
    rw [List.any_eq_false] at hn
    have hm : xs[j]'(by omega) ∈ xs.take k := by
      rw [List.mem_take_iff_getElem]
      exact ⟨j, by omega, rfl⟩
    simpa using hn _ hm
  unfold idxS; rw [this]
theorem idxS_pos (xs : List S) (s : S) : decide (0 ≤ idxS xs s) = decide (s ∈ xs) := by
  rw [decide_eq_decide]
  cases h : xs.any (s == ·) with
  | false =>
    rw [idxS_none h]
    rw [List.any_eq_false] at h
    exact ⟨fun h => absurd h (by decide), fun hs => absurd (h s hs) (by simp)⟩
  | true =>
    obtain ⟨x, hx, he⟩ := List.any_eq_true.1 h
    have : s ∈ xs := by have : s = x := by simpa using he
                        rw [this]; exact hx
    refine ⟨fun _ => this, fun _ => ?_⟩
    unfold idxS
    split
    · rename_i hn
      rw [List.findIdx?_eq_none_iff] at hn
      have := hn s this; simp at this
    · omega

end Go.Proofs.YtciamnkalmihcaaDoor
