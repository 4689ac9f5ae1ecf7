/- The walks over lists of dependencies: the closure, what follows, the trace. -/
import Derived.Test.YtciamnkalmihcaaGWalk
import Derived.Test.YtciamnkalmihcaaCells
import Derived.Test.YtciamnkalmihcaaAfter
namespace Go.Proofs.Ytciamnkalmihcaa
open Go.RowKit

/-- Sub. -/
theorem sub_any (a b : S) (w : World) :
    Calls Try.prog 101 #[enc a, enc b] w fun e w' => e = .returned (.bool (decide (sub a b))) ∧ w = w' := by
  rw [← beq_sub]
  unfold enc
  go_enter Try.func101, Try.ntmps101
  go_wp2
  go_ret
  exact ⟨rfl, rfl⟩

/-- Close. -/
theorem close_any (fs : List F) (s : S) (v : Value) (w : World) (hv : RdF w v fs) :
    Calls Try.prog 81 #[v, enc s] w fun e w' => e = .returned (enc (closeS fs s)) ∧ Below w.heap.size w w' := by
  obtain ⟨ao, cap, rfl, h2, h3⟩ := hv.split
  unfold enc
  go_enter Try.func81, Try.ntmps81
  go_wp2_with fail
  go_loopw [1] (fun u wr => ∃ t : S, u = .int .u32 (iv t) ∧ Hid (Mid fs s t) ∧ Below w.heap.size w wr) (fun u _ => 4294967296 - (intOf u).toNat)
  case atStart => exact ⟨s, rfl, hid (mid_refl fs s), Below.refl _ _⟩
  case round =>
    obtain ⟨t, rfl, M, hnx⟩ := hrel
    obtain ⟨wo, rfl⟩ : ∃ wo : World, wo = wr := ⟨_, rfl⟩
    go_wp2_with fail
    go_loopw [1, 11] (fun u i wr => ∃ k : Nat, k ≤ fs.length ∧ i = .int .i64 k ∧ u = .int .u32 (iv (passF (fs.take k) t)) ∧ Below w.heap.size w wr) (fun _ i _ => fs.length - (intOf i).toNat)
    case atStart => exact ⟨0, Nat.zero_le _, rfl, rfl, hnx⟩
    case round =>
      obtain ⟨k, hk, rfl, rfl, hnx1⟩ := hrel
      by_cases hlt : k < fs.length
      · obtain ⟨f, hf⟩ := get_some hlt
        obtain ⟨b, off, rfl, hc⟩ := h3 k f hf
        obtain ⟨e0, e1⟩ := hc wr hnx1
        have P := hid (passF_next hf t)
        clear hf hc h3
        generalize passF (fs.take k) t = y at *
        cases hq : decide (sub f.1 y) with
        | true =>
          have q : (f.1 &&& ~~~ y == 0#32) = true := by rw [beq_sub']; exact hq
          have P2 := hid (P.out.trans (stepF_yes (of_decide_eq_true hq)))
          clear hq P
          go_wp2_with fail
          go_roundw
          case rel => exact ⟨k + 1, by omega, by go_num, by rw [P2.out], hnx1.alloc hnx1.size _⟩
          case measure => simp [intOf]; omega
        | false =>
          have q : (f.1 &&& ~~~ y == 0#32) = false := by rw [beq_sub']; exact hq
          have P2 := hid (P.out.trans (stepF_no (of_decide_eq_false hq)))
          clear hq P
          go_wp2_with fail
          go_roundw
          case rel => exact ⟨k + 1, by omega, by go_num, by rw [P2.out], hnx1.alloc hnx1.size _⟩
          case measure => simp [intOf]; omega
      · rw [take_all hlt]
        cases hq : (passF fs t == t) with
        | true =>
          have e := hid (closeS_fix M.out (by simpa using hq))
          have e2 := hid (show passF fs t = t by simpa using hq)
          clear h3 M
          generalize passF fs t = y at *
          go_wp2_with fail
          go_ret
          exact ⟨by rw [e.out, ← e2.out]; rfl, hnx1⟩
        | false =>
          have hm := pass_grows (fs := fs) (t := t) (by simpa using hq)
          have hm2 := (passF fs t).isLt
          have M2 := hid M.out.pass
          clear h3 M
          generalize passF fs t = y at *
          go_wp2_with fail
          go_roundw
          case rel => exact ⟨y, rfl, M2, hnx1⟩
          case measure => simp [intOf, iv]; omega

/-- Close of the reference. -/
theorem refClose_any (fs : List F) (s : S) (v : Value) (w : World) (hv : RdF w v fs) :
    Calls Try.prog 82 #[v, enc s] w fun e w' => e = .returned (enc (closeS fs s)) ∧ Below w.heap.size w w' := by
  obtain ⟨ao, cap, rfl, h2, h3⟩ := hv.split
  have C := hid sub_any
  unfold enc at *
  go_enter Try.func82, Try.ntmps82
  go_wp2_with fail
  go_loopw [1] (fun u wr => ∃ t : S, u = .int .u32 (iv t) ∧ Hid (Mid fs s t) ∧ Below w.heap.size w wr) (fun u _ => 4294967296 - (intOf u).toNat)
  case atStart => exact ⟨s, rfl, hid (mid_refl fs s), Below.refl _ _⟩
  case round =>
    obtain ⟨t, rfl, M, hnx⟩ := hrel
    obtain ⟨wo, rfl⟩ : ∃ wo : World, wo = wr := ⟨_, rfl⟩
    go_wp2_with fail
    go_loopw [1, 6] (fun u i wr => ∃ k : Nat, k ≤ fs.length ∧ i = .int .i64 k ∧ u = .int .u32 (iv (passF (fs.take k) t)) ∧ Below w.heap.size w wr) (fun _ i _ => fs.length - (intOf i).toNat)
    case atStart => exact ⟨0, Nat.zero_le _, rfl, rfl, hnx⟩
    case round =>
      obtain ⟨k, hk, rfl, rfl, hnx1⟩ := hrel
      by_cases hlt : k < fs.length
      · obtain ⟨f, hf⟩ := get_some hlt
        obtain ⟨b, off, rfl, hc⟩ := h3 k f hf
        obtain ⟨e0, e1⟩ := hc wr hnx1
        have P := hid (passF_next hf t)
        clear hf hc h3
        generalize passF (fs.take k) t = y at *
        cases hq : decide (sub f.1 y) with
        | true =>
          have P2 := hid (P.out.trans (stepF_yes (of_decide_eq_true hq)))
          have Q := hid hq
          clear hq P
          go_wp2_with fail
          refine (C.out _ _ _).mono ?_
          rw [Q.out]
          rintro e w' ⟨rfl, rfl⟩
          go_wp2_with fail
          go_roundw
          case rel => exact ⟨k + 1, by omega, by go_num, by rw [P2.out], hnx1⟩
          case measure => simp [intOf]; omega
        | false =>
          have P2 := hid (P.out.trans (stepF_no (of_decide_eq_false hq)))
          have Q := hid hq
          clear hq P
          go_wp2_with fail
          refine (C.out _ _ _).mono ?_
          rw [Q.out]
          rintro e w' ⟨rfl, rfl⟩
          go_wp2_with fail
          go_roundw
          case rel => exact ⟨k + 1, by omega, by go_num, by rw [P2.out], hnx1⟩
          case measure => simp [intOf]; omega
      · rw [take_all hlt]
        cases hq : (passF fs t == t) with
        | true =>
          have e := hid (closeS_fix M.out (by simpa using hq))
          have e2 := hid (show passF fs t = t by simpa using hq)
          clear h3 M
          generalize passF fs t = y at *
          go_wp2_with fail
          go_ret
          exact ⟨by rw [e.out, ← e2.out]; rfl, hnx1⟩
        | false =>
          have hm := pass_grows (fs := fs) (t := t) (by simpa using hq)
          have hm2 := (passF fs t).isLt
          have M2 := hid M.out.pass
          clear h3 M
          generalize passF fs t = y at *
          go_wp2_with fail
          go_roundw
          case rel => exact ⟨y, rfl, M2, hnx1⟩
          case measure => simp [intOf, iv]; omega




/-- The least index of a dependency that enlarges a set, or -1. -/
def enlI (fs : List F) (s : S) : Int := match fs.findIdx? (enl s) with
  | none => -1
  | some i => i
theorem enlI_none {fs : List F} {s : S} (h : fs.any (enl s) = false) : fs.findIdx? (enl s) = none := by
  rw [List.findIdx?_eq_none_iff]
  intro x hx
  rw [List.any_eq_false] at h
  simpa using h x hx
theorem enlI_hit {fs : List F} {s : S} {k : Nat} {f : F} (hf : fs[k]? = some f) (h : enl s f = true) (hn : (fs.take k).any (enl s) = false) : fs.findIdx? (enl s) = some k := by
  obtain ⟨hk, rfl⟩ := List.getElem?_eq_some_iff.1 hf
  rw [List.findIdx?_eq_some_iff_getElem]
  refine ⟨hk, h, fun j hj => ?_⟩
  rw [List.any_eq_false] at hn
  have hm : fs[j]'(by omega) ∈ fs.take k := by
    rw [List.mem_take_iff_getElem]
    exact ⟨j, by omega, rfl⟩
  simpa using hn _ hm


end Go.Proofs.Ytciamnkalmihcaa
