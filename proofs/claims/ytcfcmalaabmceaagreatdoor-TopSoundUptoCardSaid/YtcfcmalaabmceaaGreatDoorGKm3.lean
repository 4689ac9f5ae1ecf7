/- Texts that belong together, in one file. -/
import Derived.Test.YtcfcmalaabmceaaGreatDoorGKm2
import Derived.Test.YtcfcmalaabmceaaGreatDoorGWalk
import Derived.Deep.QuietTactic
import Derived.BigQuiet
/- The walk of keymine's right. -/
namespace Go.Proofs.YtcfcmalaabmceaaGreatDoor
open Go.RowKit
set_option linter.unusedVariables false

def shrOk (s : S) (n : Nat) : Bool := s >>> n == 0#32

attribute [local irreducible] Go.wpQuiet

end Go.Proofs.YtcfcmalaabmceaaGreatDoor


/- slices.Equal at numbers and at sets, slices.Index and Contains at sets. -/
namespace Go.Proofs.YtcfcmalaabmceaaGreatDoor
open Go.RowKit


theorem equalS_g {α : Type} [DecidableEq α] (g : α → Int) (hg : ∀ x y, g x = g y → x = y) (xs ys : List α) (v u : Value) (w : World) (hv : RdE (fun x => .int .u32 (g x)) w v xs) (hu : RdE (fun x => .int .u32 (g x)) w u ys) :
    Calls Tryz.prog 19 #[v, u] w fun e w' => e = .returned (.bool (decide (xs = ys))) ∧ ∃ q, w' = w.drewN q := by
  obtain ⟨ao, cap, rfl, h1, h2, h3⟩ := hv
  obtain ⟨bo, cbp, rfl, g1, g2, g3⟩ := hu
  by_cases hl : xs.length = ys.length
  · have hne : ((xs.length : Int) != (ys.length : Int)) = false := by simp [hl]
    go_enter Tryz.func19, Tryz.ntmps19
    go_wp2
    go_loopw [13] (fun i wr => ∃ k q : Nat, k ≤ xs.length ∧ i = .int .i64 k ∧ wr = w.drewN q ∧ Hid (xs.take k = ys.take k)) (fun i _ => xs.length - (intOf i).toNat)
    case atStart => exact ⟨0, 0, Nat.zero_le _, rfl, rfl, hid rfl⟩
    case round =>
      obtain ⟨k, q, hk, rfl, rfl, H⟩ := hrel
      by_cases hlt : k < xs.length
      · obtain ⟨b, off, rfl, hb, hc⟩ := h3 (by omega)
        obtain ⟨b', off', rfl, hb', hc'⟩ := g3 (by omega)
        obtain ⟨x, hx⟩ := get_some hlt
        obtain ⟨y, hy⟩ := get_some (show k < ys.length by omega)
        have e1 := hc k x hx
        have e2 := hc' k y hy
        clear hc hc' h3 g3
        have X := hid hx
        have Y := hid hy
        clear hx hy
        go_wp2
        go_quiet (fail)
        go_wp2
        · have hn : (g x != g y) = true := by assumption
          go_ret
          refine ⟨ret_bool ?_, _, World.drewN_drewN _ _ _⟩
          symm; rw [decide_eq_false_iff_not]
          rintro rfl
          have := X.out.symm.trans Y.out
          simp at this; simp [this] at hn
        · have hn : (g x != g y) = false := by assumption
          go_roundw
          case rel => exact ⟨k + 1, _, by omega, by go_num, rfl, hid (by rw [take_next X.out, take_next Y.out, H.out]; simp at hn; rw [hg _ _ hn])⟩
          case measure => simp [intOf]; omega
      · go_wp2
        go_ret
        refine ⟨ret_bool ?_, _, rfl⟩
        symm; rw [decide_eq_true_iff]
        have := H.out
        rwa [List.take_of_length_le (by omega), List.take_of_length_le (by omega)] at this
  · have hne : ((xs.length : Int) != (ys.length : Int)) = true := by simp; omega
    go_enter Tryz.func19, Tryz.ntmps19
    go_wp2
    go_ret
    refine ⟨ret_bool ?_, 0, rfl⟩
    symm; rw [decide_eq_false_iff_not]
    rintro rfl; exact hl rfl

theorem equalS_any (xs ys : List S) (v u : Value) (w : World) (hv : RdE enc w v xs) (hu : RdE enc w u ys) :
    Calls Tryz.prog 19 #[v, u] w fun e w' => e = .returned (.bool (decide (xs = ys))) ∧ ∃ q, w' = w.drewN q :=
  equalS_g iv (fun _ _ h => iv_inj h) xs ys v u w hv hu


end Go.Proofs.YtcfcmalaabmceaaGreatDoor


/- The walk of keymine's Check. -/
namespace Go.Proofs.YtcfcmalaabmceaaGreatDoor
open Go.RowKit
set_option linter.unusedVariables false



end Go.Proofs.YtcfcmalaabmceaaGreatDoor


/- Plain laws of chapter 29: what All and Maximal give is a right certificate. No program. -/
namespace Go.Proofs.YtcfcmalaabmceaaGreatDoor
open Go.RowKit
set_option linter.unusedVariables false

theorem tabE_rows {t : T3} (h : tabE t = 0) : rowsE 0 t.2.1.length t.2.2 = 0 := by
  unfold tabE at h
  split at h
  · cases h
  · split at h
    · cases h
    · split at h
      · cases h
      · exact h
theorem tabE2_tab {t : T3} (h : tabE2 t = 0) : tabE t = 0 := by
  unfold tabE2 at h
  by_cases h1 : tabE t = 0
  · exact h1
  · rw [if_pos h1] at h; exact h
theorem shrOk_sub {s : S} {n : Nat} (hn : n ≤ 32) : shrOk s n = true ↔ sub s (fullN n) := by
  unfold shrOk
  rw [beq_iff_eq]
  constructor
  · intro h
    refine bits_sub (fun i hi => ?_) hn
    have := congrArg (fun x => x.getLsbD (i - n)) h
    simpa [BitVec.getLsbD_ushiftRight, Nat.add_sub_cancel' hi] using this
  · intro h
    apply BitVec.eq_of_getLsbD_eq
    intro i _
    rw [BitVec.getLsbD_ushiftRight]
    simpa using sub_full_bits hn h (n + i) (by omega)

end Go.Proofs.YtcfcmalaabmceaaGreatDoor

