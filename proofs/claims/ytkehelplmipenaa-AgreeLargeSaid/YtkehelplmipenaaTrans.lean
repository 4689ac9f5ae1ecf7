/- The walks of transversal's small functions and their references. -/
import Derived.Test.YtkehelplmipenaaGWalk
namespace Go.Proofs.Ytkehelplmipenaa
open Go.RowKit

/-- Same. -/
theorem same_any (xs ys : List S) (v u : Value) (w : World) (hv : RdE enc w v xs) (hu : RdE enc w u ys) :
    Calls Try.prog 20 #[v, u] w fun e w' => e = .returned (.bool (decide (xs = ys))) ∧ ∃ q, w' = w.drewN q := by
  obtain ⟨ao, cap, rfl, h1, h2, h3⟩ := hv
  obtain ⟨bo, cbp, rfl, g1, g2, g3⟩ := hu
  by_cases hl : xs.length = ys.length
  · have hne : ((xs.length : Int) != (ys.length : Int)) = false := by simp [hl]
    go_enter Try.func20, Try.ntmps20
    go_wp2
    go_loopw [5] (fun i wr => ∃ k q : Nat, k ≤ xs.length ∧ i = .int .i64 k ∧ wr = w.drewN q ∧ Hid (xs.take k = ys.take k)) (fun i _ => xs.length - (intOf i).toNat)
    case atStart => exact ⟨0, 0, Nat.zero_le _, rfl, rfl, hid rfl⟩
    case round =>
      obtain ⟨k, q, hk, rfl, rfl, H⟩ := hrel
      by_cases hlt : k < xs.length
      · obtain ⟨b, off, rfl, hb, hc⟩ := h3 (by omega)
        obtain ⟨b', off', rfl, hb', hc'⟩ := g3 (by omega)
        obtain ⟨x, hx⟩ := get_some hlt
        obtain ⟨y, hy⟩ := get_some (show k < ys.length by omega)
        have e1 := hc k x hx
        have e2 := hc' k y hy
        unfold enc at e1 e2
        clear hc hc' h3 g3
        have X := hid hx
        have Y := hid hy
        clear hx hy
        go_wp2
        go_quiet (fail)
        go_wp2
        · have hn : (x != y) = true := by assumption
          go_ret
          refine ⟨ret_bool ?_, _, World.drewN_drewN _ _ _⟩
          symm; rw [decide_eq_false_iff_not]
          rintro rfl
          have := X.out.symm.trans Y.out
          simp at this; simp [this] at hn
        · have hn : (x != y) = false := by assumption
          go_roundw
          case rel => exact ⟨k + 1, _, by omega, by go_num, rfl, hid (by rw [take_next X.out, take_next Y.out, H.out]; simp at hn; rw [hn])⟩
          case measure => simp [intOf]; omega
      · go_wp2
        go_ret
        refine ⟨ret_bool ?_, _, rfl⟩
        symm; rw [decide_eq_true_iff]
        have := H.out
        rwa [take_all hlt, take_all (by omega)] at this
  · have hne : ((xs.length : Int) != (ys.length : Int)) = true := by simp; omega
    go_enter Try.func20, Try.ntmps20
    go_wp2
    go_ret
    refine ⟨ret_bool ?_, 0, rfl⟩
    symm; rw [decide_eq_false_iff_not]
    rintro rfl; exact hl rfl


/-- IndexFunc at a function value that reads only. -/
theorem indexFunc_any (g : Nat) (cb : Array Value) (p : S → Bool) (xs : List S) (v : Value) (w : World) (hv : RdE enc w v xs)
    (eg : ∀ (args : Array Value) (w : World), (callFunc g args).run Try.prog w = .ok (.enter g args) w)
    (hg : ∀ x : S, Calls Try.prog g (#[enc x] ++ cb) w fun e w' => e = .returned (.bool (p x)) ∧ w = w') :
    Calls Try.prog 53 #[v, .func (.func g) #[] cb] w fun e w' => ∃ n : Int, e = .returned (.int .i64 n) ∧ decide (0 ≤ n) = xs.any p ∧ w = w' := by
  obtain ⟨ao, cap, rfl, h1, h2, h3⟩ := hv
  unfold enc at h3 hg
  have G := hid hg
  clear hg
  go_enter Try.func53, Try.ntmps53
  go_wp2
  go_loop [5, 8] (fun _ i => ∃ k : Nat, k ≤ xs.length ∧ i = .int .i64 k ∧ Hid ((xs.take k).any p = false)) (fun _ i => xs.length - (intOf i).toNat)
  case atStart => exact ⟨0, Nat.zero_le _, rfl, hid rfl⟩
  case round =>
    obtain ⟨k, hk, rfl, H⟩ := hrel
    by_cases hlt : k < xs.length
    · obtain ⟨b, off, rfl, hb, hc⟩ := h3 (by omega)
      obtain ⟨x, hx⟩ := get_some hlt
      have e1 := hc k x hx
      clear hc h3
      have X := hid hx
      clear hx
      cases hp : p x with
      | true =>
        have P1 := hid hp
        clear hp
        go_wp2_with (go_at_fn g; refine (G.out x).mono ?_; rw [P1.out]; rintro e w' ⟨rfl, rfl⟩)
        go_ret
        exact ⟨_, rfl, by rw [any_hit X.out P1.out]; simp, rfl⟩
      | false =>
        have P1 := hid hp
        clear hp
        go_wp2_with (go_at_fn g; refine (G.out x).mono ?_; rw [P1.out]; rintro e w' ⟨rfl, rfl⟩)
        go_round
        case rel => exact ⟨k + 1, by omega, by go_num, hid (none_next X.out P1.out H.out)⟩
        case measure => simp [intOf]; omega
    · go_wp2
      go_ret
      exact ⟨_, rfl, by rw [any_end H.out hlt]; rfl, rfl⟩

theorem containsFunc_any (g : Nat) (cb : Array Value) (p : S → Bool) (xs : List S) (v : Value) (w : World) (hv : RdE enc w v xs)
    (eg : ∀ (args : Array Value) (w : World), (callFunc g args).run Try.prog w = .ok (.enter g args) w)
    (hg : ∀ x : S, Calls Try.prog g (#[enc x] ++ cb) w fun e w' => e = .returned (.bool (p x)) ∧ w = w') :
    Calls Try.prog 25 #[v, .func (.func g) #[] cb] w fun e w' => e = .returned (.bool (xs.any p)) ∧ w = w' := by
  have G := hid (indexFunc_any g cb p xs v w hv eg hg)
  clear hg eg
  obtain ⟨ao, cap, rfl, -⟩ := hv
  go_enter Try.func25, Try.ntmps25
  go_wp2_with fail
  refine G.out.mono ?_
  rintro e w' ⟨n, rfl, hn, rfl⟩
  have N := hid hn
  clear hn
  go_wp2_with fail
  go_ret
  exact ⟨ret_bool N.out, rfl⟩

/-! The closures: each reads what it has captured. -/


theorem reduce1_any (s : S) (b : Nat) (x : S) (w : World) (hc : w.cell? ⟨b, 0, none⟩ = some (enc s)) :
    Calls Try.prog 69 (#[enc x] ++ #[.pointer (some ⟨b, 0, none⟩)]) w fun e w' => e = .returned (.bool (x &&& s == x)) ∧ w = w' := by
  show Calls Try.prog 69 #[enc x, .pointer (some ⟨b, 0, none⟩)] w _
  unfold enc at hc ⊢
  go_enter Try.func69, Try.ntmps69
  go_wp2
  go_ret
  exact ⟨rfl, rfl⟩


/-- The error of a hypergraph. -/
def validS (n : Int) (xs : List S) : Int :=
  if n < 0 ∨ 16 < n then 1 else if 200 < xs.length then 3 else if xs.any (fun x => x >>> n.toNat != 0#32) then 1 else 0


end Go.Proofs.Ytkehelplmipenaa
