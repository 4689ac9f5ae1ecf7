/- The walks over lists of dependencies, on: Missing, Equivalent, Valid, Clone. -/
import Derived.Test.YtalejolehccclaaGreatDoorFd
namespace Go.Proofs.YtalejolehccclaaGreatDoor
open Go.RowKit

theorem find_none {α : Type} {p : α → Bool} {l : List α} (h : l.any p = false) : l.findIdx? p = none := by
  rw [List.findIdx?_eq_none_iff]
  intro x hx
  rw [List.any_eq_false] at h
  simpa using h x hx
theorem find_hit {α : Type} {p : α → Bool} {l : List α} {k : Nat} {x : α} (hf : l[k]? = some x) (h : p x = true) (hn : (l.take k).any p = false) : l.findIdx? p = some k := by
  obtain ⟨hk, rfl⟩ := List.getElem?_eq_some_iff.1 hf
  rw [List.findIdx?_eq_some_iff_getElem]
  refine ⟨hk, h, fun j hj => ?_⟩
  rw [List.any_eq_false] at hn
  have hm : l[j]'(by omega) ∈ l.take k := by
    rw [List.mem_take_iff_getElem]
    exact ⟨j, by omega, rfl⟩
  simpa using hn _ hm


theorem missing_any (fs gs : List F) (v u : Value) (w : World) (hv : RdF w v fs) (hu : RdF w u gs) :
    Calls Tryz.prog 43 #[v, u] w fun e w' => e = .returned (.tuple #[.int .i64 (missI fs gs), .bool (missB fs gs)]) ∧ Below w.heap.size w w' := by
  have C := hid (fun (f : F) (W : World) (hb : Below w.heap.size w W) => implies_any fs f v W (hv.below hb))
  obtain ⟨ao, cap, rfl, h2, h3⟩ := hu.split
  obtain ⟨bo, cbp, rfl, -⟩ := hv.split
  clear hv hu
  unfold enc at *
  go_enter Tryz.func43, Tryz.ntmps43
  go_wp2_with fail
  go_loopw [10] (fun i wr => ∃ k : Nat, k ≤ gs.length ∧ i = .int .i64 k ∧ Hid ((gs.take k).any (missN fs) = false) ∧ Below w.heap.size w wr) (fun i _ => gs.length - (intOf i).toNat)
  case atStart => exact ⟨0, Nat.zero_le _, rfl, hid rfl, Below.refl _ _⟩
  case round =>
    obtain ⟨k, hk, rfl, H, hnx⟩ := hrel
    have hnx' := fun o => hnx.alloc hnx.size o
    by_cases hlt : k < gs.length
    · obtain ⟨f, hf⟩ := get_some hlt
      obtain ⟨b, off, rfl, hc⟩ := h3 k f hf
      obtain ⟨e0, e1⟩ := hc wr hnx
      have X := hid hf
      have N := hid hnx'
      clear hf hc h3 hnx'
      cases hq : impS fs f with
      | false =>
        have E := hid (show missN fs f = true by unfold missN; rw [hq]; rfl)
        have Q := hid hq
        clear hq
        go_wp2_with fail
        refine (C.out f _ (N.out _)).mono ?_
        rw [Q.out]
        rintro e w' ⟨rfl, hb'⟩
        have B := hid ((N.out _).trans (hb'.mono (N.out _).size))
        clear hb'
        go_wp2_with fail
        go_ret2
        have e1 : missI fs gs = k := by unfold missI; rw [find_hit X.out E.out H.out]
        exact ⟨by rw [e1, show missB fs gs = true from any_hit X.out E.out]; rfl, B.out⟩
      | true =>
        have E := hid (show missN fs f = false by unfold missN; rw [hq]; rfl)
        have Q := hid hq
        clear hq
        go_wp2_with fail
        refine (C.out f _ (N.out _)).mono ?_
        rw [Q.out]
        rintro e w' ⟨rfl, hb'⟩
        have B := hid ((N.out _).trans (hb'.mono (N.out _).size))
        clear hb'
        go_wp2_with fail
        go_roundw
        case rel => exact ⟨k + 1, by omega, by go_num, hid (none_next X.out E.out H.out), B.out⟩
        case measure => simp [intOf]; omega
    · go_wp2_with fail
      go_ret2
      have e1 : missI fs gs = 0 := by unfold missI; rw [find_none (any_end H.out hlt)]
      exact ⟨by rw [e1, show missB fs gs = false from any_end H.out hlt]; rfl, hnx⟩


theorem equivalent_any (fs gs : List F) (v u : Value) (w : World) (hv : RdF w v fs) (hu : RdF w u gs) :
    Calls Tryz.prog 13 #[v, u] w fun e w' => e = .returned (.bool (equS fs gs)) ∧ Below w.heap.size w w' := by
  have C := hid (fun (W : World) (hb : Below w.heap.size w W) => missing_any fs gs v u W (hv.below hb) (hu.below hb))
  have C2 := hid (fun (W : World) (hb : Below w.heap.size w W) => missing_any gs fs u v W (hu.below hb) (hv.below hb))
  obtain ⟨ao, cap, rfl, -⟩ := hu.split
  obtain ⟨bo, cbp, rfl, -⟩ := hv.split
  clear hv hu
  unfold equS
  generalize missB fs gs = x at *
  generalize missB gs fs = y at *
  generalize missI fs gs = i at *
  generalize missI gs fs = j at *
  cases x with
  | true =>
    go_enter Tryz.func13, Tryz.ntmps13
    go_wp2_with fail
    refine (C.out _ (Below.refl _ _)).mono ?_
    rintro e w1 ⟨rfl, hb1⟩
    have B1 := hid hb1
    clear hb1
    go_wp2_with fail
    refine (C2.out _ B1.out).mono ?_
    rintro e w2 ⟨rfl, hb2⟩
    have B2 := hid (B1.out.trans (hb2.mono B1.out.size))
    clear hb2
    go_wp2_with fail
    go_ret
    exact ⟨rfl, B2.out⟩
  | false =>
    go_enter Tryz.func13, Tryz.ntmps13
    go_wp2_with fail
    refine (C.out _ (Below.refl _ _)).mono ?_
    rintro e w1 ⟨rfl, hb1⟩
    have B1 := hid hb1
    clear hb1
    go_wp2_with fail
    refine (C2.out _ B1.out).mono ?_
    rintro e w2 ⟨rfl, hb2⟩
    have B2 := hid (B1.out.trans (hb2.mono B1.out.size))
    clear hb2
    go_wp2_with fail
    go_ret
    exact ⟨by simp, B2.out⟩


end Go.Proofs.YtalejolehccclaaGreatDoor
