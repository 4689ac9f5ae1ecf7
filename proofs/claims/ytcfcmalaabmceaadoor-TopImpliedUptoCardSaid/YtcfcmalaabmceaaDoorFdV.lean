/- The walks of Valid of a list of dependencies and of its Clone. -/
import Derived.Test.YtcfcmalaabmceaaDoorFd2
namespace Go.Proofs.YtcfcmalaabmceaaDoor
open Go.RowKit

/-- A dependency over the first n attributes. -/
def outF (n : Nat) (f : F) : Bool := (f.1 ||| f.2) >>> n != 0#32
theorem outF_sub (n : Nat) (f : F) : outF n f = !(decide (sub f.1 (fullN n)) && decide (sub f.2 (fullN n))) := by
  unfold outF bne
  congr 1
  rw [Bool.eq_iff_iff, beq_iff_eq, Bool.and_eq_true, decide_eq_true_iff, decide_eq_true_iff, ← sub_full]
  exact ⟨fun h => ⟨sub_trans (sub_or_left _ _) h, sub_trans (sub_or_right _ _) h⟩, fun h => or_sub h.1 h.2⟩
/-- The error of a list. -/
def validF (n : Int) (fs : List F) : Int :=
  if n < 0 ∨ 16 < n then 7 else if 64 < fs.length then 3 else if fs.any (outF n.toNat) then 1 else 0

theorem validF_any (n : Int) (fs : List F) (v : Value) (w : World) (hv : RdF w v fs) :
    Calls Tryd.prog 18 #[.int .i64 n, v] w fun e w' => e = .returned (.int .i64 (validF n fs)) ∧ Below w.heap.size w w' := by
  obtain ⟨ao, cap, rfl, h2, h3⟩ := hv.split
  clear hv
  by_cases hn : n < 0 ∨ 16 < n
  · have e : validF n fs = 7 := by unfold validF; rw [if_pos hn]
    rw [e]; clear e
    go_enter Tryd.func18, Tryd.ntmps18
    rcases hn with hn | hn
    · go_wp2_with fail
      go_ret
      exact ⟨rfl, Below.refl _ _⟩
    · have h0 : ¬ n < 0 := by omega
      go_wp2_with fail
      go_ret
      exact ⟨rfl, Below.refl _ _⟩
  · obtain ⟨m, rfl⟩ := Int.eq_ofNat_of_zero_le (show 0 ≤ n by omega)
    have h16 : m ≤ 16 := by omega
    by_cases hl : 64 < fs.length
    · have e : validF m fs = 3 := by unfold validF; rw [if_neg hn, if_pos hl]
      rw [e]
      clear e hn
      go_enter Tryd.func18, Tryd.ntmps18
      go_wp2_with fail
      go_ret
      exact ⟨rfl, Below.refl _ _⟩
    · have e : validF m fs = if fs.any (outF m) then 1 else 0 := by unfold validF; rw [if_neg hn, if_neg hl, Int.toNat_natCast]
      rw [e]
      obtain ⟨r, hr⟩ : ∃ r : Int, (if fs.any (outF m) then 1 else 0) = r := ⟨_, rfl⟩
      rw [hr]
      have R := hid hr
      clear e hn hr
      go_enter Tryd.func18, Tryd.ntmps18
      go_wp2_with fail
      go_loopw [18] (fun i wr => ∃ k : Nat, k ≤ fs.length ∧ i = .int .i64 k ∧ Hid ((fs.take k).any (outF m) = false) ∧ Below w.heap.size w wr) (fun i _ => fs.length - (intOf i).toNat)
      case atStart => exact ⟨0, Nat.zero_le _, rfl, hid rfl, Below.refl _ _⟩
      case round =>
        obtain ⟨k, hk, rfl, H, hnx⟩ := hrel
        by_cases hlt : k < fs.length
        · obtain ⟨f, hf⟩ := get_some hlt
          obtain ⟨b, off, rfl, hc⟩ := h3 k f hf
          obtain ⟨e0, e1⟩ := hc wr hnx
          have X := hid hf
          have N := hid (fun o => hnx.alloc hnx.size o)
          clear hf hc h3
          cases hq : (f.1 ||| f.2) >>> m != 0#32 with
          | true =>
            have E := hid (show outF m f = true from hq)
            go_wp2_with fail
            go_ret
            exact ⟨by rw [← R.out, any_hit X.out E.out]; rfl, N.out _⟩
          | false =>
            have E := hid (show outF m f = false from hq)
            go_wp2_with fail
            go_roundw
            case rel => exact ⟨k + 1, by omega, by go_num, hid (none_next X.out E.out H.out), N.out _⟩
            case measure => simp [intOf]; omega
        · go_wp2_with fail
          go_ret
          exact ⟨by rw [← R.out, any_end H.out hlt]; rfl, hnx⟩


theorem infoFD : (Tryd.prog.info? 34).map (fun i => (i.zero, i.size, i.bytes)) = some (some (.agg #[.int .u32 0, .int .u32 0]), 2, 8) := by kernel_rfl
theorem undFDs : Tryd.prog.underlying 27 = some (.slice 34) := by kernel_rfl


end Go.Proofs.YtcfcmalaabmceaaDoor
