/- Texts that belong together, in one file. -/
import Derived.Test.YtgahpgmagfngfaaGreatDoorGWalk
import Derived.Test.YtgahpgmagfngfaaGreatDoorGSort
import Derived.Test.YtgahpgmagfngfaaGreatDoorCells
import Derived.Test.YtgahpgmagfngfaaGreatDoorAfter
/- The walks over lists of dependencies: the closure, what follows, the trace. -/
namespace Go.Proofs.YtgahpgmagfngfaaGreatDoor
open Go.RowKit

/-- Close. -/
theorem close_any (fs : List F) (s : S) (v : Value) (w : World) (hv : RdF w v fs) :
    Calls Tryz.prog 56 #[v, enc s] w fun e w' => e = .returned (enc (closeS fs s)) ∧ Below w.heap.size w w' := by
  obtain ⟨ao, cap, rfl, h2, h3⟩ := hv.split
  unfold enc
  go_enter Tryz.func56, Tryz.ntmps56
  go_wp2_with fail
  go_loopw [1] (fun u wr => ∃ t : S, u = .int .u32 (iv t) ∧ Hid (Mid fs s t) ∧ Below w.heap.size w wr) (fun u _ => 4294967296 - (intOf u).toNat)
  case atStart => exact ⟨s, rfl, hid (mid_refl fs s), Below.refl _ _⟩
  case round =>
    obtain ⟨t, rfl, M, hnx⟩ := hrel
    obtain ⟨wo, rfl⟩ : ∃ wo : World, wo = wr := ⟨_, rfl⟩
    go_wp2_with fail
    go_loopw [1, 11] (fun u i wr => ∃ k : Nat, k ≤ fs.length ∧ i = .int .i64 k ∧ u = .int .u32 (iv (passF (fs.take k) t)) ∧ Below w.heap.size w wr) (fun _ i _ => fs.length - (intOf i).toNat)
    case atStart => exact ⟨0, Nat.zero_le _, rfl, rfl, hnx⟩
    case round =>
      obtain ⟨k, hk, rfl, rfl, hnx1⟩ := hrel
      by_cases hlt : k < fs.length
      · obtain ⟨f, hf⟩ := get_some hlt
        obtain ⟨b, off, rfl, hc⟩ := h3 k f hf
        obtain ⟨e0, e1⟩ := hc wr hnx1
        have P := hid (passF_next hf t)
        clear hf hc h3
        generalize passF (fs.take k) t = y at *
        cases hq : decide (sub f.1 y) with
        | true =>
          have q : (f.1 &&& ~~~ y == 0#32) = true := by rw [beq_sub']; exact hq
          have P2 := hid (P.out.trans (stepF_yes (of_decide_eq_true hq)))
          clear hq P
          go_wp2_with fail
          go_roundw
          case rel => exact ⟨k + 1, by omega, by go_num, by rw [P2.out], hnx1.alloc hnx1.size _⟩
          case measure => simp [intOf]; omega
        | false =>
          have q : (f.1 &&& ~~~ y == 0#32) = false := by rw [beq_sub']; exact hq
          have P2 := hid (P.out.trans (stepF_no (of_decide_eq_false hq)))
          clear hq P
          go_wp2_with fail
          go_roundw
          case rel => exact ⟨k + 1, by omega, by go_num, by rw [P2.out], hnx1.alloc hnx1.size _⟩
          case measure => simp [intOf]; omega
      · rw [take_all hlt]
        cases hq : (passF fs t == t) with
        | true =>
          have e := hid (closeS_fix M.out (by simpa using hq))
          have e2 := hid (show passF fs t = t by simpa using hq)
          clear h3 M
          generalize passF fs t = y at *
          go_wp2_with fail
          go_ret
          exact ⟨by rw [e.out, ← e2.out]; rfl, hnx1⟩
        | false =>
          have hm := pass_grows (fs := fs) (t := t) (by simpa using hq)
          have hm2 := (passF fs t).isLt
          have M2 := hid M.out.pass
          clear h3 M
          generalize passF fs t = y at *
          go_wp2_with fail
          go_roundw
          case rel => exact ⟨y, rfl, M2, hnx1⟩
          case measure => simp [intOf, iv]; omega


/-- Implies. -/
theorem implies_any (fs : List F) (f : F) (v : Value) (w : World) (hv : RdF w v fs) :
    Calls Tryz.prog 159 #[v, .agg #[enc f.1, enc f.2]] w fun e w' => e = .returned (.bool (impS fs f)) ∧ Below w.heap.size w w' := by
  have hb := below_alloc w (.cells #[enc f.1, enc f.2] 57)
  have C := hid (fun i : After (w.alloc (.cells #[enc f.1, enc f.2] 57)) => Calls.after i (close_any fs f.1 v i.world ((hv.below hb).below i.below)))
  obtain ⟨ao, cap, rfl, -⟩ := hv.split
  have e : impS fs f = (f.2 &&& ~~~ closeS fs f.1 == 0#32) := by rw [beq_sub']; rfl
  rw [e]
  have B := hid hb
  clear e hb hv
  generalize closeS fs f.1 = c at *
  have e0 : ∀ i : After (w.alloc (.cells #[enc f.1, enc f.2] 57)), i.world.cell? ⟨w.heap.size, 0, none⟩ = some (.int .u32 (iv f.1)) := fun i => After.cell (by simp [enc]) i
  have e1 : ∀ i : After (w.alloc (.cells #[enc f.1, enc f.2] 57)), i.world.cell? ⟨w.heap.size, 1, none⟩ = some (.int .u32 (iv f.2)) := fun i => After.cell (by simp [enc]) i
  unfold enc at *
  go_enter Tryz.func159, Tryz.ntmps159
  go_wp2_with fail
  refine wp_region_after (by kernel_rfl) (by kernel_rfl) ?_
  repeat (any_goals (quiet_step (exact C.out _)))
  refine wpQuiet_nil ?_
  intro wq hq
  have BQ := hid (B.out.trans (hq.mono B.out.size))
  clear hq
  go_wp2_with fail
  go_ret
  exact ⟨rfl, BQ.out⟩



/-- The least index of a dependency that enlarges a set, or -1. -/
def enlI (fs : List F) (s : S) : Int := match fs.findIdx? (enl s) with
  | none => -1
  | some i => i
theorem enlI_none {fs : List F} {s : S} (h : fs.any (enl s) = false) : fs.findIdx? (enl s) = none := by
  rw [List.findIdx?_eq_none_iff]
  intro x hx
  rw [List.any_eq_false] at h
  simpa using h x hx
theorem enlI_hit {fs : List F} {s : S} {k : Nat} {f : F} (hf : fs[k]? = some f) (h : enl s f = true) (hn : (fs.take k).any (enl s) = false) : fs.findIdx? (enl s) = some k := by
  obtain ⟨hk, rfl⟩ := List.getElem?_eq_some_iff.1 hf
  rw [List.findIdx?_eq_some_iff_getElem]
  refine ⟨hk, h, fun j hj => ?_⟩
  rw [List.any_eq_false] at hn
  have hm : fs[j]'(by omega) ∈ fs.take k := by
    rw [List.mem_take_iff_getElem]
    exact ⟨j, by omega, rfl⟩
  simpa using hn _ hm

theorem enlarges_any (fs : List F) (s : S) (v : Value) (w : World) (hv : RdF w v fs) :
    Calls Tryz.prog 93 #[v, enc s] w fun e w' => e = .returned (.int .i64 (enlI fs s)) ∧ Below w.heap.size w w' := by
  obtain ⟨ao, cap, rfl, h2, h3⟩ := hv.split
  clear hv
  unfold enc at *
  go_enter Tryz.func93, Tryz.ntmps93
  go_wp2_with fail
  go_loopw [9] (fun i wr => ∃ k : Nat, k ≤ fs.length ∧ i = .int .i64 k ∧ Hid ((fs.take k).any (enl s) = false) ∧ Below w.heap.size w wr) (fun i _ => fs.length - (intOf i).toNat)
  case atStart => exact ⟨0, Nat.zero_le _, rfl, hid rfl, Below.refl _ _⟩
  case round =>
    obtain ⟨k, hk, rfl, H, hnx⟩ := hrel
    have hnx' := fun o => hnx.alloc hnx.size o
    by_cases hlt : k < fs.length
    · obtain ⟨f, hf⟩ := get_some hlt
      obtain ⟨b, off, rfl, hc⟩ := h3 k f hf
      obtain ⟨e0, e1⟩ := hc wr hnx
      have X := hid hf
      have N := hid hnx'
      clear hf hc h3 hnx'
      cases hq : decide (sub f.1 s) with
      | false =>
        have E := hid (show enl s f = false by unfold enl; rw [hq]; rfl)
        have q : (f.1 &&& ~~~ s == 0#32) = false := by rw [beq_sub']; exact hq
        clear hq
        go_wp2_with fail
        go_roundw
        case rel => exact ⟨k + 1, by omega, by go_num, hid (none_next X.out E.out H.out), N.out _⟩
        case measure => simp [intOf]; omega
      | true =>
        have q : (f.1 &&& ~~~ s == 0#32) = true := by rw [beq_sub']; exact hq
        cases hq2 : decide (sub f.2 s) with
        | false =>
          have E := hid (enlI_hit X.out (show enl s f = true by unfold enl; rw [hq, hq2]; rfl) H.out)
          have q2 : (f.2 &&& ~~~ s != 0#32) = true := by unfold bne; rw [beq_sub', hq2]; rfl
          clear hq hq2
          go_wp2_with fail
          go_ret
          exact ⟨by unfold enlI; rw [E.out]; rfl, N.out _⟩
        | true =>
          have E := hid (show enl s f = false by unfold enl; rw [hq, hq2]; rfl)
          have q2 : (f.2 &&& ~~~ s != 0#32) = false := by unfold bne; rw [beq_sub', hq2]; rfl
          clear hq hq2
          go_wp2_with fail
          go_roundw
          case rel => exact ⟨k + 1, by omega, by go_num, hid (none_next X.out E.out H.out), N.out _⟩
          case measure => simp [intOf]; omega
    · go_wp2_with fail
      go_ret
      exact ⟨by unfold enlI; rw [enlI_none (any_end H.out hlt)]; rfl, hnx⟩

end Go.Proofs.YtgahpgmagfngfaaGreatDoor


/- The walks over lists of dependencies, on: Missing, Equivalent, Valid, Clone. -/
namespace Go.Proofs.YtgahpgmagfngfaaGreatDoor
open Go.RowKit







end Go.Proofs.YtgahpgmagfngfaaGreatDoor


/- The walks of Valid of a list of dependencies and of its Clone. -/
namespace Go.Proofs.YtgahpgmagfngfaaGreatDoor
open Go.RowKit

/-- A dependency over the first n attributes. -/
def outF (n : Nat) (f : F) : Bool := (f.1 ||| f.2) >>> n != 0#32
theorem outF_sub (n : Nat) (f : F) : outF n f = !(decide (sub f.1 (fullN n)) && decide (sub f.2 (fullN n))) := by
  unfold outF bne
  congr 1
  rw [Bool.eq_iff_iff, beq_iff_eq, Bool.and_eq_true, decide_eq_true_iff, decide_eq_true_iff, ← sub_full]
  exact ⟨fun h => ⟨sub_trans (sub_or_left _ _) h, sub_trans (sub_or_right _ _) h⟩, fun h => or_sub h.1 h.2⟩
/-- The error of a list. -/
def validF (n : Int) (fs : List F) : Int :=
  if n < 0 ∨ 16 < n then 7 else if 64 < fs.length then 3 else if fs.any (outF n.toNat) then 1 else 0

theorem validF_any (n : Int) (fs : List F) (v : Value) (w : World) (hv : RdF w v fs) :
    Calls Tryz.prog 55 #[.int .i64 n, v] w fun e w' => e = .returned (.int .i64 (validF n fs)) ∧ Below w.heap.size w w' := by
  obtain ⟨ao, cap, rfl, h2, h3⟩ := hv.split
  clear hv
  by_cases hn : n < 0 ∨ 16 < n
  · have e : validF n fs = 7 := by unfold validF; rw [if_pos hn]
    rw [e]; clear e
    go_enter Tryz.func55, Tryz.ntmps55
    rcases hn with hn | hn
    · go_wp2_with fail
      go_ret
      exact ⟨rfl, Below.refl _ _⟩
    · have h0 : ¬ n < 0 := by omega
      go_wp2_with fail
      go_ret
      exact ⟨rfl, Below.refl _ _⟩
  · obtain ⟨m, rfl⟩ := Int.eq_ofNat_of_zero_le (show 0 ≤ n by omega)
    have h16 : m ≤ 16 := by omega
    by_cases hl : 64 < fs.length
    · have e : validF m fs = 3 := by unfold validF; rw [if_neg hn, if_pos hl]
      rw [e]
      clear e hn
      go_enter Tryz.func55, Tryz.ntmps55
      go_wp2_with fail
      go_ret
      exact ⟨rfl, Below.refl _ _⟩
    · have e : validF m fs = if fs.any (outF m) then 1 else 0 := by unfold validF; rw [if_neg hn, if_neg hl, Int.toNat_natCast]
      rw [e]
      obtain ⟨r, hr⟩ : ∃ r : Int, (if fs.any (outF m) then 1 else 0) = r := ⟨_, rfl⟩
      rw [hr]
      have R := hid hr
      clear e hn hr
      go_enter Tryz.func55, Tryz.ntmps55
      go_wp2_with fail
      go_loopw [18] (fun i wr => ∃ k : Nat, k ≤ fs.length ∧ i = .int .i64 k ∧ Hid ((fs.take k).any (outF m) = false) ∧ Below w.heap.size w wr) (fun i _ => fs.length - (intOf i).toNat)
      case atStart => exact ⟨0, Nat.zero_le _, rfl, hid rfl, Below.refl _ _⟩
      case round =>
        obtain ⟨k, hk, rfl, H, hnx⟩ := hrel
        by_cases hlt : k < fs.length
        · obtain ⟨f, hf⟩ := get_some hlt
          obtain ⟨b, off, rfl, hc⟩ := h3 k f hf
          obtain ⟨e0, e1⟩ := hc wr hnx
          have X := hid hf
          have N := hid (fun o => hnx.alloc hnx.size o)
          clear hf hc h3
          cases hq : (f.1 ||| f.2) >>> m != 0#32 with
          | true =>
            have E := hid (show outF m f = true from hq)
            go_wp2_with fail
            go_ret
            exact ⟨by rw [← R.out, any_hit X.out E.out]; rfl, N.out _⟩
          | false =>
            have E := hid (show outF m f = false from hq)
            go_wp2_with fail
            go_roundw
            case rel => exact ⟨k + 1, by omega, by go_num, hid (none_next X.out E.out H.out), N.out _⟩
            case measure => simp [intOf]; omega
        · go_wp2_with fail
          go_ret
          exact ⟨by rw [← R.out, any_end H.out hlt]; rfl, hnx⟩


theorem infoFD : (Tryz.prog.info? 57).map (fun i => (i.zero, i.size, i.bytes)) = some (some (.agg #[.int .u32 0, .int .u32 0]), 2, 8) := by kernel_rfl
theorem undFDs : Tryz.prog.underlying 58 = some (.slice 57) := by kernel_rfl


end Go.Proofs.YtgahpgmagfngfaaGreatDoor

