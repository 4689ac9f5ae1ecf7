/- The walks over lists of dependencies: the closure, what follows, the trace. -/
import Derived.Test.YthoidncbbcpnnaaGreatDoorGWalk
import Derived.Test.YthoidncbbcpnnaaGreatDoorGSort
import Derived.Test.YthoidncbbcpnnaaGreatDoorCells
import Derived.Test.YthoidncbbcpnnaaGreatDoorAfter
namespace Go.Proofs.YthoidncbbcpnnaaGreatDoor
open Go.RowKit

/-- Close. -/
theorem close_any (fs : List F) (s : S) (v : Value) (w : World) (hv : RdF w v fs) :
    Calls Tryz.prog 197 #[v, enc s] w fun e w' => e = .returned (enc (closeS fs s)) ∧ Below w.heap.size w w' := by
  obtain ⟨ao, cap, rfl, h2, h3⟩ := hv.split
  unfold enc
  go_enter Tryz.func197, Tryz.ntmps197
  go_wp2_with fail
  go_loopw [1] (fun u wr => ∃ t : S, u = .int .u32 (iv t) ∧ Hid (Mid fs s t) ∧ Below w.heap.size w wr) (fun u _ => 4294967296 - (intOf u).toNat)
  case atStart => exact ⟨s, rfl, hid (mid_refl fs s), Below.refl _ _⟩
  case round =>
    obtain ⟨t, rfl, M, hnx⟩ := hrel
    obtain ⟨wo, rfl⟩ : ∃ wo : World, wo = wr := ⟨_, rfl⟩
    go_wp2_with fail
    go_loopw [1, 11] (fun u i wr => ∃ k : Nat, k ≤ fs.length ∧ i = .int .i64 k ∧ u = .int .u32 (iv (passF (fs.take k) t)) ∧ Below w.heap.size w wr) (fun _ i _ => fs.length - (intOf i).toNat)
    case atStart => exact ⟨0, Nat.zero_le _, rfl, rfl, hnx⟩
    case round =>
      obtain ⟨k, hk, rfl, rfl, hnx1⟩ := hrel
      by_cases hlt : k < fs.length
      · obtain ⟨f, hf⟩ := get_some hlt
        obtain ⟨b, off, rfl, hc⟩ := h3 k f hf
        obtain ⟨e0, e1⟩ := hc wr hnx1
        have P := hid (passF_next hf t)
        clear hf hc h3
        generalize passF (fs.take k) t = y at *
        cases hq : decide (sub f.1 y) with
        | true =>
          have q : (f.1 &&& ~~~ y == 0#32) = true := by rw [beq_sub']; exact hq
          have P2 := hid (P.out.trans (stepF_yes (of_decide_eq_true hq)))
          clear hq P
          go_wp2_with fail
          go_roundw
          case rel => exact ⟨k + 1, by omega, by go_num, by rw [P2.out], hnx1.alloc hnx1.size _⟩
          case measure => simp [intOf]; omega
        | false =>
          have q : (f.1 &&& ~~~ y == 0#32) = false := by rw [beq_sub']; exact hq
          have P2 := hid (P.out.trans (stepF_no (of_decide_eq_false hq)))
          clear hq P
          go_wp2_with fail
          go_roundw
          case rel => exact ⟨k + 1, by omega, by go_num, by rw [P2.out], hnx1.alloc hnx1.size _⟩
          case measure => simp [intOf]; omega
      · rw [take_all hlt]
        cases hq : (passF fs t == t) with
        | true =>
          have e := hid (closeS_fix M.out (by simpa using hq))
          have e2 := hid (show passF fs t = t by simpa using hq)
          clear h3 M
          generalize passF fs t = y at *
          go_wp2_with fail
          go_ret
          exact ⟨by rw [e.out, ← e2.out]; rfl, hnx1⟩
        | false =>
          have hm := pass_grows (fs := fs) (t := t) (by simpa using hq)
          have hm2 := (passF fs t).isLt
          have M2 := hid M.out.pass
          clear h3 M
          generalize passF fs t = y at *
          go_wp2_with fail
          go_roundw
          case rel => exact ⟨y, rfl, M2, hnx1⟩
          case measure => simp [intOf, iv]; omega

/-- Close of the reference. -/
theorem refClose_any (fs : List F) (s : S) (v : Value) (w : World) (hv : RdF w v fs) :
    Calls Tryz.prog 58 #[v, enc s] w fun e w' => e = .returned (enc (closeS fs s)) ∧ Below w.heap.size w w' := by
  obtain ⟨ao, cap, rfl, h2, h3⟩ := hv.split
  have C := hid sub_any
  unfold enc at *
  go_enter Tryz.func58, Tryz.ntmps58
  go_wp2_with fail
  go_loopw [1] (fun u wr => ∃ t : S, u = .int .u32 (iv t) ∧ Hid (Mid fs s t) ∧ Below w.heap.size w wr) (fun u _ => 4294967296 - (intOf u).toNat)
  case atStart => exact ⟨s, rfl, hid (mid_refl fs s), Below.refl _ _⟩
  case round =>
    obtain ⟨t, rfl, M, hnx⟩ := hrel
    obtain ⟨wo, rfl⟩ : ∃ wo : World, wo = wr := ⟨_, rfl⟩
    go_wp2_with fail
    go_loopw [1, 6] (fun u i wr => ∃ k : Nat, k ≤ fs.length ∧ i = .int .i64 k ∧ u = .int .u32 (iv (passF (fs.take k) t)) ∧ Below w.heap.size w wr) (fun _ i _ => fs.length - (intOf i).toNat)
    case atStart => exact ⟨0, Nat.zero_le _, rfl, rfl, hnx⟩
    case round =>
      obtain ⟨k, hk, rfl, rfl, hnx1⟩ := hrel
      by_cases hlt : k < fs.length
      · obtain ⟨f, hf⟩ := get_some hlt
        obtain ⟨b, off, rfl, hc⟩ := h3 k f hf
        obtain ⟨e0, e1⟩ := hc wr hnx1
        have P := hid (passF_next hf t)
        clear hf hc h3
        generalize passF (fs.take k) t = y at *
        cases hq : decide (sub f.1 y) with
        | true =>
          have P2 := hid (P.out.trans (stepF_yes (of_decide_eq_true hq)))
          have Q := hid hq
          clear hq P
          go_wp2_with fail
          refine (C.out _ _ _).mono ?_
          rw [Q.out]
          rintro e w' ⟨rfl, rfl⟩
          go_wp2_with fail
          go_roundw
          case rel => exact ⟨k + 1, by omega, by go_num, by rw [P2.out], hnx1⟩
          case measure => simp [intOf]; omega
        | false =>
          have P2 := hid (P.out.trans (stepF_no (of_decide_eq_false hq)))
          have Q := hid hq
          clear hq P
          go_wp2_with fail
          refine (C.out _ _ _).mono ?_
          rw [Q.out]
          rintro e w' ⟨rfl, rfl⟩
          go_wp2_with fail
          go_roundw
          case rel => exact ⟨k + 1, by omega, by go_num, by rw [P2.out], hnx1⟩
          case measure => simp [intOf]; omega
      · rw [take_all hlt]
        cases hq : (passF fs t == t) with
        | true =>
          have e := hid (closeS_fix M.out (by simpa using hq))
          have e2 := hid (show passF fs t = t by simpa using hq)
          clear h3 M
          generalize passF fs t = y at *
          go_wp2_with fail
          go_ret
          exact ⟨by rw [e.out, ← e2.out]; rfl, hnx1⟩
        | false =>
          have hm := pass_grows (fs := fs) (t := t) (by simpa using hq)
          have hm2 := (passF fs t).isLt
          have M2 := hid M.out.pass
          clear h3 M
          generalize passF fs t = y at *
          go_wp2_with fail
          go_roundw
          case rel => exact ⟨y, rfl, M2, hnx1⟩
          case measure => simp [intOf, iv]; omega

/-- Implies. -/
theorem implies_any (fs : List F) (f : F) (v : Value) (w : World) (hv : RdF w v fs) :
    Calls Tryz.prog 193 #[v, .agg #[enc f.1, enc f.2]] w fun e w' => e = .returned (.bool (impS fs f)) ∧ Below w.heap.size w w' := by
  have hb := below_alloc w (.cells #[enc f.1, enc f.2] 56)
  have C := hid (fun i : After (w.alloc (.cells #[enc f.1, enc f.2] 56)) => Calls.after i (close_any fs f.1 v i.world ((hv.below hb).below i.below)))
  obtain ⟨ao, cap, rfl, -⟩ := hv.split
  have e : impS fs f = (f.2 &&& ~~~ closeS fs f.1 == 0#32) := by rw [beq_sub']; rfl
  rw [e]
  have B := hid hb
  clear e hb hv
  generalize closeS fs f.1 = c at *
  have e0 : ∀ i : After (w.alloc (.cells #[enc f.1, enc f.2] 56)), i.world.cell? ⟨w.heap.size, 0, none⟩ = some (.int .u32 (iv f.1)) := fun i => After.cell (by simp [enc]) i
  have e1 : ∀ i : After (w.alloc (.cells #[enc f.1, enc f.2] 56)), i.world.cell? ⟨w.heap.size, 1, none⟩ = some (.int .u32 (iv f.2)) := fun i => After.cell (by simp [enc]) i
  unfold enc at *
  go_enter Tryz.func193, Tryz.ntmps193
  go_wp2_with fail
  refine wp_region_after (by kernel_rfl) (by kernel_rfl) ?_
  repeat (any_goals (quiet_step (exact C.out _)))
  refine wpQuiet_nil ?_
  intro wq hq
  have BQ := hid (B.out.trans (hq.mono B.out.size))
  clear hq
  go_wp2_with fail
  go_ret
  exact ⟨rfl, BQ.out⟩

/-- Implies of the reference. -/
theorem refImplies_any (fs : List F) (f : F) (v : Value) (w : World) (hv : RdF w v fs) :
    Calls Tryz.prog 27 #[v, .agg #[enc f.1, enc f.2]] w fun e w' => e = .returned (.bool (impS fs f)) ∧ Below w.heap.size w w' := by
  have hb := below_alloc w (.cells #[enc f.1, enc f.2] 56)
  have C := hid (fun i : After (w.alloc (.cells #[enc f.1, enc f.2] 56)) => Calls.after i (refClose_any fs f.1 v i.world ((hv.below hb).below i.below)))
  have C2 := hid (fun i : After (w.alloc (.cells #[enc f.1, enc f.2] 56)) => Calls.after_same i (sub_any f.2 (closeS fs f.1) i.world))
  obtain ⟨ao, cap, rfl, -⟩ := hv.split
  have e : impS fs f = decide (sub f.2 (closeS fs f.1)) := rfl
  rw [e]
  have B := hid hb
  clear e hb hv
  generalize decide (sub f.2 (closeS fs f.1)) = r at *
  generalize closeS fs f.1 = c at *
  have e0 : ∀ i : After (w.alloc (.cells #[enc f.1, enc f.2] 56)), i.world.cell? ⟨w.heap.size, 0, none⟩ = some (.int .u32 (iv f.1)) := fun i => After.cell (by simp [enc]) i
  have e1 : ∀ i : After (w.alloc (.cells #[enc f.1, enc f.2] 56)), i.world.cell? ⟨w.heap.size, 1, none⟩ = some (.int .u32 (iv f.2)) := fun i => After.cell (by simp [enc]) i
  unfold enc at *
  go_enter Tryz.func27, Tryz.ntmps27
  go_wp2_with fail
  refine wp_region_after (by kernel_rfl) (by kernel_rfl) ?_
  repeat (any_goals (quiet_step (first | exact C.out _ | exact C2.out _)))
  refine wpQuiet_nil ?_
  intro wq hq
  have BQ := hid (B.out.trans (hq.mono B.out.size))
  clear hq
  go_wp2_with fail
  go_ret
  exact ⟨rfl, BQ.out⟩




end Go.Proofs.YthoidncbbcpnnaaGreatDoor
