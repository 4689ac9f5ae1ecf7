/- The walks of the reference's layer 7: Valid, All, Reduce, Smallest, Witness. -/
import Derived.Test.YtciamnkalmihcaaRefOrd
import Derived.Test.YtciamnkalmihcaaMin
import Derived.Test.YtciamnkalmihcaaAll
import Derived.Test.YtciamnkalmihcaaGPlain
namespace Go.Proofs.Ytciamnkalmihcaa
open Go.RowKit

/-- Valid of the reference. -/
theorem refValid_any (n : Int) (xs : List S) (v : Value) (w : World) (hv : RdE enc w v xs) :
    Calls Try.prog 78 #[.int .i64 n, v] w fun e w' => e = .returned (.int .i64 (validS n xs)) ∧ Below w.heap.size w w' := by
  obtain ⟨ao, cap, rfl, -, -, h3⟩ := hv
  by_cases hn : n < 0 ∨ 16 < n
  · have e : validS n xs = 1 := by unfold validS; rw [if_pos hn]
    rw [e]; clear e
    go_enter Try.func78, Try.ntmps78
    rcases hn with hn | hn
    · go_wp2_with fail
      go_ret
      exact ⟨rfl, Below.refl _ _⟩
    · have h0 : ¬ n < 0 := by omega
      go_wp2_with fail
      go_ret
      exact ⟨rfl, Below.refl _ _⟩
  · have h0 : ¬ n < 0 := by omega
    have h1 : ¬ 16 < n := by omega
    by_cases hl : 200 < xs.length
    · have e : validS n xs = 3 := by unfold validS; rw [if_neg hn, if_pos hl]
      rw [e]; clear e hn
      go_enter Try.func78, Try.ntmps78
      go_wp2_with fail
      go_ret
      exact ⟨rfl, Below.refl _ _⟩
    · have e : validS n xs = if xs.any (fun x => x >>> n.toNat != 0#32) then 1 else 0 := by unfold validS; rw [if_neg hn, if_neg hl]
      have E := hid e
      have C := hid (full_any n)
      have hmin : min n.toNat 32 = n.toNat := by omega
      rw [hmin] at C
      have OV := hid (fun x => over_full x n.toNat)
      clear e hn hmin
      unfold enc at h3 C
      go_enter Try.func78, Try.ntmps78
      go_wp2_with fail
      go_loopw [5] (fun i wr => ∃ k : Nat, k ≤ xs.length ∧ i = .int .i64 k ∧ Below w.heap.size w wr ∧ Hid ((xs.take k).any (fun x => x >>> n.toNat != 0#32) = false)) (fun i _ => xs.length - (intOf i).toNat)
      case atStart => exact ⟨0, Nat.zero_le _, rfl, Below.refl _ _, hid rfl⟩
      case round =>
        obtain ⟨k, hk, rfl, hnx, H⟩ := hrel
        by_cases hlt : k < xs.length
        · obtain ⟨b, off, rfl, hb, hc⟩ := h3 (by omega)
          obtain ⟨x, hx⟩ := get_some hlt
          have e1 := (hnx.cell (p := ⟨b, off + k, none⟩) hb).trans (hc k x hx)
          have HN := hid hnx
          clear hnx
          clear hc h3
          have X := hid hx
          clear hx
          have ov := OV.out x
          generalize fullN n.toNat = fu at *
          cases hq : (x >>> n.toNat != 0#32) with
          | true =>
            rw [hq] at ov
            have HQ := hid hq
            clear hq
            go_wp2_with fail
            go_quiet ((go_at_call 40; exact Calls.quiet_of_same ((C.out _).mono (fun _ _ h => ⟨h.1, h.2.symm⟩))))
            go_wp2_with fail
            go_ret
            exact ⟨by rw [E.out, if_pos (any_hit (p := fun x : S => x >>> n.toNat != 0#32) X.out HQ.out)]; rfl, HN.out.trans (below_drewN _ _ _)⟩
          | false =>
            rw [hq] at ov
            have HQ := hid hq
            clear hq
            go_wp2_with fail
            go_quiet ((go_at_call 40; exact Calls.quiet_of_same ((C.out _).mono (fun _ _ h => ⟨h.1, h.2.symm⟩))))
            go_wp2_with fail
            go_roundw
            case rel => exact ⟨k + 1, by omega, by go_num, HN.out.trans (below_drewN _ _ _), hid (none_next (p := fun x : S => x >>> n.toNat != 0#32) X.out HQ.out H.out)⟩
            case measure => simp [intOf]; omega
        · go_wp2_with fail
          go_ret
          exact ⟨by rw [E.out, if_neg (by rw [any_end H.out hlt]; simp)]; rfl, hnx⟩

/-- The edges with no other one in them. -/
def least (xs : List S) (e : S) : Bool := !xs.any (fun f => f != e && (f &&& ~~~ e == 0#32))
def leastL (xs : List S) (k : Nat) : List S := (xs.take k).filter (least xs)
theorem leastL_next {xs : List S} {k : Nat} {x : S} (h : xs[k]? = some x) : leastL xs (k + 1) = leastL xs k ++ if least xs x then [x] else [] := by
  unfold leastL; rw [take_next h, List.filter_append]; cases hh : least xs x <;> simp [hh]
theorem leastL_length (xs : List S) (k : Nat) : (leastL xs k).length ≤ xs.length := by
  unfold leastL
  exact Nat.le_trans (List.length_filter_le _ _) (by rw [List.length_take]; exact Nat.min_le_right _ _)
theorem least_iff {xs : List S} {e : S} : least xs e = true ↔ ∀ f ∈ xs, sub f e → f = e := by
  unfold least
  rw [Bool.not_eq_true', List.any_eq_false]
  constructor
  · intro h f hf hs
    have := h f hf
    simp only [Bool.and_eq_true, bne_iff_ne, beq_iff_eq, andNot_zero_iff, not_and] at this
    apply Classical.byContradiction
    intro hne
    exact this hne hs
  · intro h f hf
    simp only [Bool.and_eq_true, bne_iff_ne, beq_iff_eq, andNot_zero_iff, not_and]
    exact fun hne hs => hne (h f hf hs)


end Go.Proofs.Ytciamnkalmihcaa
