/- The walks over lists of dependencies: the closure, what follows, the trace. -/
import Derived.Test.YtciamnkalmihcaaDoorGWalk
import Derived.Test.YtciamnkalmihcaaDoorCells
import Derived.Test.YtciamnkalmihcaaDoorAfter
namespace Go.Proofs.YtciamnkalmihcaaDoor
open Go.RowKit

/-- Sub. -/
theorem sub_any (a b : S) (w : World) :
    Calls Tryd.prog 19 #[enc a, enc b] w fun e w' => e = .returned (.bool (decide (sub a b))) ∧ w = w' := by
  rw [← beq_sub]
  unfold enc
  go_enter Tryd.func19, Tryd.ntmps19
  go_wp2
  go_ret
  exact ⟨rfl, rfl⟩

/-- Close. -/
theorem close_any (fs : List F) (s : S) (v : Value) (w : World) (hv : RdF w v fs) :
    Calls Tryd.prog 40 #[v, enc s] w fun e w' => e = .returned (enc (closeS fs s)) ∧ Below w.heap.size w w' := by
  obtain ⟨ao, cap, rfl, h2, h3⟩ := hv.split
  unfold enc
  go_enter Tryd.func40, Tryd.ntmps40
  go_wp2_with fail
  go_loopw [1] (fun u wr => ∃ t : S, u = .int .u32 (iv t) ∧ Hid (Mid fs s t) ∧ Below w.heap.size w wr) (fun u _ => 4294967296 - (intOf u).toNat)
  case atStart => exact ⟨s, rfl, hid (mid_refl fs s), Below.refl _ _⟩
  case round =>
    obtain ⟨t, rfl, M, hnx⟩ := hrel
    obtain ⟨wo, rfl⟩ : ∃ wo : World, wo = wr := ⟨_, rfl⟩
    go_wp2_with fail
    go_loopw [1, 11] (fun u i wr => ∃ k : Nat, k ≤ fs.length ∧ i = .int .i64 k ∧ u = .int .u32 (iv (passF (fs.take k) t)) ∧ Below w.heap.size w wr) (fun _ i _ => fs.length - (intOf i).toNat)
    case atStart => exact ⟨0, Nat.zero_le _, rfl, rfl, hnx⟩
    case round =>
      obtain ⟨k, hk, rfl, rfl, hnx1⟩ := hrel
      by_cases hlt : k < fs.length
      · obtain ⟨f, hf⟩ := get_some hlt
        obtain ⟨b, off, rfl, hc⟩ := h3 k f hf
        obtain ⟨e0, e1⟩ := hc wr hnx1
        have P := hid (passF_next hf t)
        clear hf hc h3
        generalize passF (fs.take k) t = y at *
        cases hq : decide (sub f.1 y) with
        | true =>
          have q : (f.1 &&& ~~~ y == 0#32) = true := by rw [beq_sub']; exact hq
          have P2 := hid (P.out.trans (stepF_yes (of_decide_eq_true hq)))
          clear hq P
          go_wp2_with fail
          go_roundw
          case rel => exact ⟨k + 1, by omega, by go_num, by rw [P2.out], hnx1.alloc hnx1.size _⟩
          case measure => simp [intOf]; omega
        | false =>
          have q : (f.1 &&& ~~~ y == 0#32) = false := by rw [beq_sub']; exact hq
          have P2 := hid (P.out.trans (stepF_no (of_decide_eq_false hq)))
          clear hq P
          go_wp2_with fail
          go_roundw
          case rel => exact ⟨k + 1, by omega, by go_num, by rw [P2.out], hnx1.alloc hnx1.size _⟩
          case measure => simp [intOf]; omega
      · rw [take_all hlt]
        cases hq : (passF fs t == t) with
        | true =>
          have e := hid (closeS_fix M.out (by simpa using hq))
          have e2 := hid (show passF fs t = t by simpa using hq)
          clear h3 M
          generalize passF fs t = y at *
          go_wp2_with fail
          go_ret
          exact ⟨by rw [e.out, ← e2.out]; rfl, hnx1⟩
        | false =>
          have hm := pass_grows (fs := fs) (t := t) (by simpa using hq)
          have hm2 := (passF fs t).isLt
          have M2 := hid M.out.pass
          clear h3 M
          generalize passF fs t = y at *
          go_wp2_with fail
          go_roundw
          case rel => exact ⟨y, rfl, M2, hnx1⟩
          case measure => simp [intOf, iv]; omega

/-- Close of the reference. -/
theorem refClose_any (fs : List F) (s : S) (v : Value) (w : World) (hv : RdF w v fs) :
    Calls Tryd.prog 33 #[v, enc s] w fun e w' => e = .returned (enc (closeS fs s)) ∧ Below w.heap.size w w' := by
  obtain ⟨ao, cap, rfl, h2, h3⟩ := hv.split
  have C := hid sub_any
  unfold enc at *
  go_enter Tryd.func33, Tryd.ntmps33
  go_wp2_with fail
  go_loopw [1] (fun u wr => ∃ t : S, u = .int .u32 (iv t) ∧ Hid (Mid fs s t) ∧ Below w.heap.size w wr) (fun u _ => 4294967296 - (intOf u).toNat)
  case atStart => exact ⟨s, rfl, hid (mid_refl fs s), Below.refl _ _⟩
  case round =>
    obtain ⟨t, rfl, M, hnx⟩ := hrel
    obtain ⟨wo, rfl⟩ : ∃ wo : World, wo = wr := ⟨_, rfl⟩
    go_wp2_with fail
    go_loopw [1, 6] (fun u i wr => ∃ k : Nat, k ≤ fs.length ∧ i = .int .i64 k ∧ u = .int .u32 (iv (passF (fs.take k) t)) ∧ Below w.heap.size w wr) (fun _ i _ => fs.length - (intOf i).toNat)
    case atStart => exact ⟨0, Nat.zero_le _, rfl, rfl, hnx⟩
    case round =>
      obtain ⟨k, hk, rfl, rfl, hnx1⟩ := hrel
      by_cases hlt : k < fs.length
      · obtain ⟨f, hf⟩ := get_some hlt
        obtain ⟨b, off, rfl, hc⟩ := h3 k f hf
        obtain ⟨e0, e1⟩ := hc wr hnx1
        have P := hid (passF_next hf t)
        clear hf hc h3
        generalize passF (fs.take k) t = y at *
        cases hq : decide (sub f.1 y) with
        | true =>
          have P2 := hid (P.out.trans (stepF_yes (of_decide_eq_true hq)))
          have Q := hid hq
          clear hq P
          go_wp2_with fail
          refine (C.out _ _ _).mono ?_
          rw [Q.out]
          rintro e w' ⟨rfl, rfl⟩
          go_wp2_with fail
          go_roundw
          case rel => exact ⟨k + 1, by omega, by go_num, by rw [P2.out], hnx1⟩
          case measure => simp [intOf]; omega
        | false =>
          have P2 := hid (P.out.trans (stepF_no (of_decide_eq_false hq)))
          have Q := hid hq
          clear hq P
          go_wp2_with fail
          refine (C.out _ _ _).mono ?_
          rw [Q.out]
          rintro e w' ⟨rfl, rfl⟩
          go_wp2_with fail
          go_roundw
          case rel => exact ⟨k + 1, by omega, by go_num, by rw [P2.out], hnx1⟩
          case measure => simp [intOf]; omega
      · rw [take_all hlt]
        cases hq : (passF fs t == t) with
        | true =>
          have e := hid (closeS_fix M.out (by simpa using hq))
          have e2 := hid (show passF fs t = t by simpa using hq)
          clear h3 M
          generalize passF fs t = y at *
          go_wp2_with fail
          go_ret
          exact ⟨by rw [e.out, ← e2.out]; rfl, hnx1⟩
        | false =>
          have hm := pass_grows (fs := fs) (t := t) (by simpa using hq)
          have hm2 := (passF fs t).isLt
          have M2 := hid M.out.pass
          clear h3 M
          generalize passF fs t = y at *
          go_wp2_with fail
          go_roundw
          case rel => exact ⟨y, rfl, M2, hnx1⟩
          case measure => simp [intOf, iv]; omega

/-- Implies. -/
theorem implies_any (fs : List F) (f : F) (v : Value) (w : World) (hv : RdF w v fs) :
    Calls Tryd.prog 43 #[v, .agg #[enc f.1, enc f.2]] w fun e w' => e = .returned (.bool (impS fs f)) ∧ Below w.heap.size w w' := by
  have hb := below_alloc w (.cells #[enc f.1, enc f.2] 34)
  have C := hid (fun i : After (w.alloc (.cells #[enc f.1, enc f.2] 34)) => Calls.after i (close_any fs f.1 v i.world ((hv.below hb).below i.below)))
  obtain ⟨ao, cap, rfl, -⟩ := hv.split
  have e : impS fs f = (f.2 &&& ~~~ closeS fs f.1 == 0#32) := by rw [beq_sub']; rfl
  rw [e]
  have B := hid hb
  clear e hb hv
  generalize closeS fs f.1 = c at *
  have e0 : ∀ i : After (w.alloc (.cells #[enc f.1, enc f.2] 34)), i.world.cell? ⟨w.heap.size, 0, none⟩ = some (.int .u32 (iv f.1)) := fun i => After.cell (by simp [enc]) i
  have e1 : ∀ i : After (w.alloc (.cells #[enc f.1, enc f.2] 34)), i.world.cell? ⟨w.heap.size, 1, none⟩ = some (.int .u32 (iv f.2)) := fun i => After.cell (by simp [enc]) i
  unfold enc at *
  go_enter Tryd.func43, Tryd.ntmps43
  go_wp2_with fail
  refine wp_region_after (by kernel_rfl) (by kernel_rfl) ?_
  repeat (any_goals (quiet_step (exact C.out _)))
  refine wpQuiet_nil ?_
  intro wq hq
  have BQ := hid (B.out.trans (hq.mono B.out.size))
  clear hq
  go_wp2_with fail
  go_ret
  exact ⟨rfl, BQ.out⟩

/-- Implies of the reference. -/
theorem refImplies_any (fs : List F) (f : F) (v : Value) (w : World) (hv : RdF w v fs) :
    Calls Tryd.prog 20 #[v, .agg #[enc f.1, enc f.2]] w fun e w' => e = .returned (.bool (impS fs f)) ∧ Below w.heap.size w w' := by
  have hb := below_alloc w (.cells #[enc f.1, enc f.2] 34)
  have C := hid (fun i : After (w.alloc (.cells #[enc f.1, enc f.2] 34)) => Calls.after i (refClose_any fs f.1 v i.world ((hv.below hb).below i.below)))
  have C2 := hid (fun i : After (w.alloc (.cells #[enc f.1, enc f.2] 34)) => Calls.after_same i (sub_any f.2 (closeS fs f.1) i.world))
  obtain ⟨ao, cap, rfl, -⟩ := hv.split
  have e : impS fs f = decide (sub f.2 (closeS fs f.1)) := rfl
  rw [e]
  have B := hid hb
  clear e hb hv
  generalize decide (sub f.2 (closeS fs f.1)) = r at *
  generalize closeS fs f.1 = c at *
  have e0 : ∀ i : After (w.alloc (.cells #[enc f.1, enc f.2] 34)), i.world.cell? ⟨w.heap.size, 0, none⟩ = some (.int .u32 (iv f.1)) := fun i => After.cell (by simp [enc]) i
  have e1 : ∀ i : After (w.alloc (.cells #[enc f.1, enc f.2] 34)), i.world.cell? ⟨w.heap.size, 1, none⟩ = some (.int .u32 (iv f.2)) := fun i => After.cell (by simp [enc]) i
  unfold enc at *
  go_enter Tryd.func20, Tryd.ntmps20
  go_wp2_with fail
  refine wp_region_after (by kernel_rfl) (by kernel_rfl) ?_
  repeat (any_goals (quiet_step (first | exact C.out _ | exact C2.out _)))
  refine wpQuiet_nil ?_
  intro wq hq
  have BQ := hid (B.out.trans (hq.mono B.out.size))
  clear hq
  go_wp2_with fail
  go_ret
  exact ⟨rfl, BQ.out⟩


/-- The least index of a dependency that enlarges a set, or -1. -/
def enlI (fs : List F) (s : S) : Int := match fs.findIdx? (enl s) with
  | none => -1
  | some i => i
theorem enlI_none {fs : List F} {s : S} (h : fs.any (enl s) = false) : fs.findIdx? (enl s) = none := by
  rw [List.findIdx?_eq_none_iff]
  intro x hx
  rw [List.any_eq_false] at h
  simpa using h x hx
theorem enlI_hit {fs : List F} {s : S} {k : Nat} {f : F} (hf : fs[k]? = some f) (h : enl s f = true) (hn : (fs.take k).any (enl s) = false) : fs.findIdx? (enl s) = some k := by
  obtain ⟨hk, rfl⟩ := List.getElem?_eq_some_iff.1 hf
  rw [List.findIdx?_eq_some_iff_getElem]
  refine ⟨hk, h, fun j hj => ?_⟩
  rw [List.any_eq_false] at hn
  have hm : fs[j]'(by omega) ∈ fs.take k := by
    rw [List.mem_take_iff_getElem]
    exact ⟨j, by omega, rfl⟩
  simpa using hn _ hm


end Go.Proofs.YtciamnkalmihcaaDoor
