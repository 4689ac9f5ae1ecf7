/- The walks over lists of dependencies: the closure, what follows, the trace. -/
import Derived.Test.YtcfcmalaabmceaaDoorGWalk
import Derived.Test.YtcfcmalaabmceaaDoorGSort
import Derived.Test.YtcfcmalaabmceaaDoorCells
import Derived.Test.YtcfcmalaabmceaaDoorAfter
namespace Go.Proofs.YtcfcmalaabmceaaDoor
open Go.RowKit

/-- Close. -/
theorem close_any (fs : List F) (s : S) (v : Value) (w : World) (hv : RdF w v fs) :
    Calls Tryd.prog 17 #[v, enc s] w fun e w' => e = .returned (enc (closeS fs s)) ∧ Below w.heap.size w w' := by
  obtain ⟨ao, cap, rfl, h2, h3⟩ := hv.split
  unfold enc
  go_enter Tryd.func17, Tryd.ntmps17
  go_wp2_with fail
  go_loopw [1] (fun u wr => ∃ t : S, u = .int .u32 (iv t) ∧ Hid (Mid fs s t) ∧ Below w.heap.size w wr) (fun u _ => 4294967296 - (intOf u).toNat)
  case atStart => exact ⟨s, rfl, hid (mid_refl fs s), Below.refl _ _⟩
  case round =>
    obtain ⟨t, rfl, M, hnx⟩ := hrel
    obtain ⟨wo, rfl⟩ : ∃ wo : World, wo = wr := ⟨_, rfl⟩
    go_wp2_with fail
    go_loopw [1, 11] (fun u i wr => ∃ k : Nat, k ≤ fs.length ∧ i = .int .i64 k ∧ u = .int .u32 (iv (passF (fs.take k) t)) ∧ Below w.heap.size w wr) (fun _ i _ => fs.length - (intOf i).toNat)
    case atStart => exact ⟨0, Nat.zero_le _, rfl, rfl, hnx⟩
    case round =>
      obtain ⟨k, hk, rfl, rfl, hnx1⟩ := hrel
      by_cases hlt : k < fs.length
      · obtain ⟨f, hf⟩ := get_some hlt
        obtain ⟨b, off, rfl, hc⟩ := h3 k f hf
        obtain ⟨e0, e1⟩ := hc wr hnx1
        have P := hid (passF_next hf t)
        clear hf hc h3
        generalize passF (fs.take k) t = y at *
        cases hq : decide (sub f.1 y) with
        | true =>
          have q : (f.1 &&& ~~~ y == 0#32) = true := by rw [beq_sub']; exact hq
          have P2 := hid (P.out.trans (stepF_yes (of_decide_eq_true hq)))
          clear hq P
          go_wp2_with fail
          go_roundw
          case rel => exact ⟨k + 1, by omega, by go_num, by rw [P2.out], hnx1.alloc hnx1.size _⟩
          case measure => simp [intOf]; omega
        | false =>
          have q : (f.1 &&& ~~~ y == 0#32) = false := by rw [beq_sub']; exact hq
          have P2 := hid (P.out.trans (stepF_no (of_decide_eq_false hq)))
          clear hq P
          go_wp2_with fail
          go_roundw
          case rel => exact ⟨k + 1, by omega, by go_num, by rw [P2.out], hnx1.alloc hnx1.size _⟩
          case measure => simp [intOf]; omega
      · rw [take_all hlt]
        cases hq : (passF fs t == t) with
        | true =>
          have e := hid (closeS_fix M.out (by simpa using hq))
          have e2 := hid (show passF fs t = t by simpa using hq)
          clear h3 M
          generalize passF fs t = y at *
          go_wp2_with fail
          go_ret
          exact ⟨by rw [e.out, ← e2.out]; rfl, hnx1⟩
        | false =>
          have hm := pass_grows (fs := fs) (t := t) (by simpa using hq)
          have hm2 := (passF fs t).isLt
          have M2 := hid M.out.pass
          clear h3 M
          generalize passF fs t = y at *
          go_wp2_with fail
          go_roundw
          case rel => exact ⟨y, rfl, M2, hnx1⟩
          case measure => simp [intOf, iv]; omega


/-- Implies. -/
theorem implies_any (fs : List F) (f : F) (v : Value) (w : World) (hv : RdF w v fs) :
    Calls Tryd.prog 7 #[v, .agg #[enc f.1, enc f.2]] w fun e w' => e = .returned (.bool (impS fs f)) ∧ Below w.heap.size w w' := by
  have hb := below_alloc w (.cells #[enc f.1, enc f.2] 34)
  have C := hid (fun i : After (w.alloc (.cells #[enc f.1, enc f.2] 34)) => Calls.after i (close_any fs f.1 v i.world ((hv.below hb).below i.below)))
  obtain ⟨ao, cap, rfl, -⟩ := hv.split
  have e : impS fs f = (f.2 &&& ~~~ closeS fs f.1 == 0#32) := by rw [beq_sub']; rfl
  rw [e]
  have B := hid hb
  clear e hb hv
  generalize closeS fs f.1 = c at *
  have e0 : ∀ i : After (w.alloc (.cells #[enc f.1, enc f.2] 34)), i.world.cell? ⟨w.heap.size, 0, none⟩ = some (.int .u32 (iv f.1)) := fun i => After.cell (by simp [enc]) i
  have e1 : ∀ i : After (w.alloc (.cells #[enc f.1, enc f.2] 34)), i.world.cell? ⟨w.heap.size, 1, none⟩ = some (.int .u32 (iv f.2)) := fun i => After.cell (by simp [enc]) i
  unfold enc at *
  go_enter Tryd.func7, Tryd.ntmps7
  go_wp2_with fail
  refine wp_region_after (by kernel_rfl) (by kernel_rfl) ?_
  repeat (any_goals (quiet_step (exact C.out _)))
  refine wpQuiet_nil ?_
  intro wq hq
  have BQ := hid (B.out.trans (hq.mono B.out.size))
  clear hq
  go_wp2_with fail
  go_ret
  exact ⟨rfl, BQ.out⟩



/-- The least index of a dependency that enlarges a set, or -1. -/
def enlI (fs : List F) (s : S) : Int := match fs.findIdx? (enl s) with
  | none => -1
  | some i => i
theorem enlI_none {fs : List F} {s : S} (h : fs.any (enl s) = false) : fs.findIdx? (enl s) = none := by
  rw [List.findIdx?_eq_none_iff]
  intro x hx
  rw [List.any_eq_false] at h
  simpa using h x hx
theorem enlI_hit {fs : List F} {s : S} {k : Nat} {f : F} (hf : fs[k]? = some f) (h : enl s f = true) (hn : (fs.take k).any (enl s) = false) : fs.findIdx? (enl s) = some k := by
  obtain ⟨hk, rfl⟩ := List.getElem?_eq_some_iff.1 hf
  rw [List.findIdx?_eq_some_iff_getElem]
  refine ⟨hk, h, fun j hj => ?_⟩
  rw [List.any_eq_false] at hn
  have hm : fs[j]'(by omega) ∈ fs.take k := by
    rw [List.mem_take_iff_getElem]
    exact ⟨j, by omega, rfl⟩
  simpa using hn _ hm

theorem enlarges_any (fs : List F) (s : S) (v : Value) (w : World) (hv : RdF w v fs) :
    Calls Tryd.prog 37 #[v, enc s] w fun e w' => e = .returned (.int .i64 (enlI fs s)) ∧ Below w.heap.size w w' := by
  obtain ⟨ao, cap, rfl, h2, h3⟩ := hv.split
  clear hv
  unfold enc at *
  go_enter Tryd.func37, Tryd.ntmps37
  go_wp2_with fail
  go_loopw [9] (fun i wr => ∃ k : Nat, k ≤ fs.length ∧ i = .int .i64 k ∧ Hid ((fs.take k).any (enl s) = false) ∧ Below w.heap.size w wr) (fun i _ => fs.length - (intOf i).toNat)
  case atStart => exact ⟨0, Nat.zero_le _, rfl, hid rfl, Below.refl _ _⟩
  case round =>
    obtain ⟨k, hk, rfl, H, hnx⟩ := hrel
    have hnx' := fun o => hnx.alloc hnx.size o
    by_cases hlt : k < fs.length
    · obtain ⟨f, hf⟩ := get_some hlt
      obtain ⟨b, off, rfl, hc⟩ := h3 k f hf
      obtain ⟨e0, e1⟩ := hc wr hnx
      have X := hid hf
      have N := hid hnx'
      clear hf hc h3 hnx'
      cases hq : decide (sub f.1 s) with
      | false =>
        have E := hid (show enl s f = false by unfold enl; rw [hq]; rfl)
        have q : (f.1 &&& ~~~ s == 0#32) = false := by rw [beq_sub']; exact hq
        clear hq
        go_wp2_with fail
        go_roundw
        case rel => exact ⟨k + 1, by omega, by go_num, hid (none_next X.out E.out H.out), N.out _⟩
        case measure => simp [intOf]; omega
      | true =>
        have q : (f.1 &&& ~~~ s == 0#32) = true := by rw [beq_sub']; exact hq
        cases hq2 : decide (sub f.2 s) with
        | false =>
          have E := hid (enlI_hit X.out (show enl s f = true by unfold enl; rw [hq, hq2]; rfl) H.out)
          have q2 : (f.2 &&& ~~~ s != 0#32) = true := by unfold bne; rw [beq_sub', hq2]; rfl
          clear hq hq2
          go_wp2_with fail
          go_ret
          exact ⟨by unfold enlI; rw [E.out]; rfl, N.out _⟩
        | true =>
          have E := hid (show enl s f = false by unfold enl; rw [hq, hq2]; rfl)
          have q2 : (f.2 &&& ~~~ s != 0#32) = false := by unfold bne; rw [beq_sub', hq2]; rfl
          clear hq hq2
          go_wp2_with fail
          go_roundw
          case rel => exact ⟨k + 1, by omega, by go_num, hid (none_next X.out E.out H.out), N.out _⟩
          case measure => simp [intOf]; omega
    · go_wp2_with fail
      go_ret
      exact ⟨by unfold enlI; rw [enlI_none (any_end H.out hlt)]; rfl, hnx⟩

end Go.Proofs.YtcfcmalaabmceaaDoor
