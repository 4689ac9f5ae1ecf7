/- The walks of drossref03's Attr (with its value), Names and Valid, and of the checks of chapter 27. -/
import Derived.Test.YtkehelplmipenaaTab4
import Derived.BigQuiet
namespace Go.Proofs.Ytkehelplmipenaa
open Go.RowKit

/-- Where a string first stands in a list, or -1. -/
def idxT (s : ByteArray) (xs : List ByteArray) : Int := if xs.any (eqT s) = true then (xs.findIdx (eqT s) : Int) else -1
theorem idxT_hit {s x : ByteArray} {xs : List ByteArray} {k : Nat} (hx : xs[k]? = some x) (hp : eqT s x = true) (hn : (xs.take k).any (eqT s) = false) : idxT s xs = k := by
  obtain ⟨hk, he⟩ := List.getElem?_eq_some_iff.1 hx
  unfold idxT
  rw [if_pos (any_hit hx hp), (List.findIdx_eq hk).2 ⟨by rw [he]; exact hp, fun j hj => ?_⟩]
  rw [List.any_eq_false] at hn
  have hm : xs[j] ∈ xs.take k := by
    rw [List.mem_take_iff_getElem]
    exact ⟨j, by omega, rfl⟩
  simpa using hn _ hm
theorem idxT_none {s : ByteArray} {xs : List ByteArray} (h : xs.any (eqT s) = false) : idxT s xs = -1 := by unfold idxT; rw [h]; rfl
theorem idxT_ge (s : ByteArray) (xs : List ByteArray) : decide (idxT s xs ≥ 0) = xs.any (eqT s) := by
  unfold idxT
  split <;> rename_i h
  · rw [h]; simp
  · rw [Bool.not_eq_true] at h; rw [h]; rfl
theorem refAttr_at (xs : List ByteArray) (s : ByteArray) (v : Value) (w : World) (hv : RdE encT w v xs) :
    Calls Try.prog 113 #[v, .string s] w fun e w' => e = .returned (.int .i64 (idxT s xs)) ∧ w = w' := by
  obtain ⟨ao, cap, rfl, hl, hc⟩ := hv.split
  have FC := hid hc
  have ET := hid (fun x => show eqT s x = (s.toList == x.toList) from rfl)
  have IH := hid (fun (k : Nat) (x : ByteArray) (hx : xs[k]? = some x) (hp : eqT s x = true) (hn : (xs.take k).any (eqT s) = false) => idxT_hit hx hp hn)
  have IN := hid (fun h : xs.any (eqT s) = false => idxT_none h)
  clear hv hc
  generalize idxT s xs = r at *
  go_enter Try.func113, Try.ntmps113
  go_wp2_with fail
  go_loop [5] (fun i => ∃ k : Nat, k ≤ xs.length ∧ i = .int .i64 k ∧ Hid ((xs.take k).any (eqT s) = false)) (fun i => xs.length - (intOf i).toNat)
  case atStart => exact ⟨0, Nat.zero_le _, rfl, hid rfl⟩
  case round =>
    obtain ⟨k, hk, rfl, H⟩ := hrel
    by_cases hlt : k < xs.length
    · obtain ⟨x, hx⟩ := get_some hlt
      obtain ⟨b, off, rfl, hd⟩ := FC.out k x hx
      have e0 : w.cell? ⟨b, off + k, none⟩ = some (.string x) := hd w (Below.refl _ _)
      have k0 : (0 : Int) ≤ (k : Int) := by omega
      have E1 := hid (ET.out x)
      have X := hid hx
      clear hd hx
      cases hq : (s.toList == x.toList) with
      | true =>
        have P := hid (E1.out.trans hq)
        have hq2 : (x.toList == s.toList) = true := by rw [beq_iff_eq] at hq ⊢; exact hq.symm
        go_wp2_with fail
        go_ret
        exact ⟨ret_int (IH.out k x X.out P.out H.out).symm, rfl⟩
      | false =>
        have P := hid (E1.out.trans hq)
        have hq2 : (x.toList == s.toList) = false := by rw [beq_eq_false_iff_ne] at hq ⊢; exact fun e => hq e.symm
        go_wp2_with fail
        go_round
        case rel => exact ⟨k + 1, by omega, by go_num, hid (none_next X.out P.out H.out)⟩
        case measure => simp [intOf]; omega
    · have HA := hid (any_end H.out hlt)
      go_wp2_with fail
      go_ret
      exact ⟨ret_int (IN.out HA.out).symm, rfl⟩

theorem refNames_any (ats : List ByteArray) (v : Value) (w : World) (hv : RdE encT w v ats) :
    Calls Try.prog 86 #[v] w fun e w' => e = .returned (.bool (!attrsBad ats)) ∧ Below w.heap.size w w' := by
  have go : ∀ r : Bool, (!attrsBad ats) = r → Calls Try.prog 86 #[v] w fun e w' => e = .returned (.bool r) ∧ Below w.heap.size w w' := by
    intro r hr
    have AB := hid (show attrsBad ats = (List.range ats.length).any (attrBad ats) from rfl)
    have TE := hid hr
    have A0 := hid hv
    have NA := hid (fun (a : ByteArray) (W : World) => refName_any a W)
    have CT := hid (fun (xs : List ByteArray) (s : ByteArray) (v : Value) (W : World) (h : RdE encT W v xs) => refAttr_at xs s v W h)
    obtain ⟨ao, acap, rfl, hal, hac0⟩ := A0.out.split
    have hac : ats.length ≤ acap := by
      obtain ⟨ao', cap', he, h1, -⟩ := A0.out
      cases he; exact h1
    have AC := hid hac0
    clear hac0 hv hr
    go_enter Try.func86, Try.ntmps86
    go_wp2_with fail
    go_loopw [3] (fun i wr => ∃ k : Nat, k ≤ ats.length ∧ i = .int .i64 k ∧ Below w.heap.size w wr ∧ Hid (((List.range ats.length).take k).any (attrBad ats) = false)) (fun i _ => ats.length - (intOf i).toNat)
    case atStart => exact ⟨0, Nat.zero_le _, rfl, Below.refl _ _, hid rfl⟩
    case round =>
      obtain ⟨k, hk, rfl, hnx, H⟩ := hrel
      by_cases hlt : k < ats.length
      · obtain ⟨a, ha⟩ := get_some hlt
        obtain ⟨b, off, rfl, hd⟩ := AC.out k a ha
        have e0 : wr.cell? ⟨b, off + k, none⟩ = some (.string a) := hd wr hnx
        have AT := hid (attrBad_at ha)
        have RA := hid (range_at hlt)
        have N1 := hid (NA.out a)
        have CK := hid (fun (W : World) (h : Below w.heap.size w W) => CT.out _ a _ W (RdE.takeT (k := k) (A0.out.below h) (by omega)))
        have GE := hid (idxT_ge a (ats.take k))
        have BAD := hid (fun h : attrBad ats k = true => show false = r by rw [← TE.out, AB.out, any_hit RA.out h]; rfl)
        have GOOD := hid (fun h : attrBad ats k = false => none_next RA.out h H.out)
        have HN := hid hnx
        have k0 : (0 : Int) ≤ (k : Int) := by omega
        have k1 : (k : Int) ≤ (ats.length : Int) := by omega
        have k2 : (k : Int) ≤ (acap : Int) := by omega
        have k3 : k ≤ acap := by omega
        clear hd ha hnx
        generalize (ats.take k).any (eqT a) = cb at *
        generalize idxT a (ats.take k) = ix at *
        cases hn : nameB a with
        | false =>
          rw [hn] at N1 AT
          have RF := hid (BAD.out AT.out)
          clear BAD GOOD hn
          go_wp2_with fail
          go_quiet ((go_at_call 85; exact Calls.quiet_of_same ((N1.out _).mono (fun _ _ h => ⟨h.1, h.2.symm⟩))))
          go_wp2_with fail
          go_ret
          exact ⟨ret_bool RF.out, below_drewN' HN.out _⟩
        | true =>
          rw [hn] at N1 AT
          clear hn
          cases cb with
          | true =>
            have RF := hid (BAD.out AT.out)
            have hge : decide (ix ≥ 0) = true := GE.out
            clear BAD GOOD
            go_wp2_with fail
            go_quiet (first | (go_at_call 85; exact Calls.quiet_of_same ((N1.out _).mono (fun _ _ h => ⟨h.1, h.2.symm⟩))) | (go_at_call 113; exact Calls.quiet_of_same ((CK.out _ (below_drewN' HN.out _)).mono (fun _ _ h => ⟨h.1, h.2.symm⟩))))
            go_wp2_with fail
            go_ret
            exact ⟨ret_bool RF.out, below_drewN' HN.out _⟩
          | false =>
            have G := hid (GOOD.out AT.out)
            have hge : decide (ix ≥ 0) = false := GE.out
            clear BAD GOOD
            go_wp2_with fail
            go_quiet (first | (go_at_call 85; exact Calls.quiet_of_same ((N1.out _).mono (fun _ _ h => ⟨h.1, h.2.symm⟩))) | (go_at_call 113; exact Calls.quiet_of_same ((CK.out _ (below_drewN' HN.out _)).mono (fun _ _ h => ⟨h.1, h.2.symm⟩))))
            go_wp2_with fail
            go_roundw
            case rel => exact ⟨k + 1, by omega, by go_num, below_drewN' HN.out _, hid G.out⟩
            case measure => simp [intOf]; omega
      · have HA := hid (any_end H.out (by simpa using hlt))
        have RF := hid (show true = r by rw [← TE.out, AB.out, HA.out]; rfl)
        have HN := hid hnx
        clear hnx
        go_wp2_with fail
        go_ret
        exact ⟨ret_bool RF.out, HN.out⟩
  exact go _ rfl

end Go.Proofs.Ytkehelplmipenaa
