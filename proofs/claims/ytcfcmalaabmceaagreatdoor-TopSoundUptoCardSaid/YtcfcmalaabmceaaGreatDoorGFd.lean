/- Texts that belong together, in one file. -/
import Derived.Test.YtcfcmalaabmceaaGreatDoorGWalk
import Derived.Test.YtcfcmalaabmceaaGreatDoorGSort
import Derived.Test.YtcfcmalaabmceaaGreatDoorCells
import Derived.Test.YtcfcmalaabmceaaGreatDoorAfter
/- The walks over lists of dependencies: the closure, what follows, the trace. -/
namespace Go.Proofs.YtcfcmalaabmceaaGreatDoor
open Go.RowKit

/-- Close. -/
theorem close_any (fs : List F) (s : S) (v : Value) (w : World) (hv : RdF w v fs) :
    Calls Tryz.prog 40 #[v, enc s] w fun e w' => e = .returned (enc (closeS fs s)) ∧ Below w.heap.size w w' := by
  obtain ⟨ao, cap, rfl, h2, h3⟩ := hv.split
  unfold enc
  go_enter Tryz.func40, Tryz.ntmps40
  go_wp2_with fail
  go_loopw [1] (fun u wr => ∃ t : S, u = .int .u32 (iv t) ∧ Hid (Mid fs s t) ∧ Below w.heap.size w wr) (fun u _ => 4294967296 - (intOf u).toNat)
  case atStart => exact ⟨s, rfl, hid (mid_refl fs s), Below.refl _ _⟩
  case round =>
    obtain ⟨t, rfl, M, hnx⟩ := hrel
    obtain ⟨wo, rfl⟩ : ∃ wo : World, wo = wr := ⟨_, rfl⟩
    go_wp2_with fail
    go_loopw [1, 11] (fun u i wr => ∃ k : Nat, k ≤ fs.length ∧ i = .int .i64 k ∧ u = .int .u32 (iv (passF (fs.take k) t)) ∧ Below w.heap.size w wr) (fun _ i _ => fs.length - (intOf i).toNat)
    case atStart => exact ⟨0, Nat.zero_le _, rfl, rfl, hnx⟩
    case round =>
      obtain ⟨k, hk, rfl, rfl, hnx1⟩ := hrel
      by_cases hlt : k < fs.length
      · obtain ⟨f, hf⟩ := get_some hlt
        obtain ⟨b, off, rfl, hc⟩ := h3 k f hf
        obtain ⟨e0, e1⟩ := hc wr hnx1
        have P := hid (passF_next hf t)
        clear hf hc h3
        generalize passF (fs.take k) t = y at *
        cases hq : decide (sub f.1 y) with
        | true =>
          have q : (f.1 &&& ~~~ y == 0#32) = true := by rw [beq_sub']; exact hq
          have P2 := hid (P.out.trans (stepF_yes (of_decide_eq_true hq)))
          clear hq P
          go_wp2_with fail
          go_roundw
          case rel => exact ⟨k + 1, by omega, by go_num, by rw [P2.out], hnx1.alloc hnx1.size _⟩
          case measure => simp [intOf]; omega
        | false =>
          have q : (f.1 &&& ~~~ y == 0#32) = false := by rw [beq_sub']; exact hq
          have P2 := hid (P.out.trans (stepF_no (of_decide_eq_false hq)))
          clear hq P
          go_wp2_with fail
          go_roundw
          case rel => exact ⟨k + 1, by omega, by go_num, by rw [P2.out], hnx1.alloc hnx1.size _⟩
          case measure => simp [intOf]; omega
      · rw [take_all hlt]
        cases hq : (passF fs t == t) with
        | true =>
          have e := hid (closeS_fix M.out (by simpa using hq))
          have e2 := hid (show passF fs t = t by simpa using hq)
          clear h3 M
          generalize passF fs t = y at *
          go_wp2_with fail
          go_ret
          exact ⟨by rw [e.out, ← e2.out]; rfl, hnx1⟩
        | false =>
          have hm := pass_grows (fs := fs) (t := t) (by simpa using hq)
          have hm2 := (passF fs t).isLt
          have M2 := hid M.out.pass
          clear h3 M
          generalize passF fs t = y at *
          go_wp2_with fail
          go_roundw
          case rel => exact ⟨y, rfl, M2, hnx1⟩
          case measure => simp [intOf, iv]; omega


/-- Implies. -/
theorem implies_any (fs : List F) (f : F) (v : Value) (w : World) (hv : RdF w v fs) :
    Calls Tryz.prog 35 #[v, .agg #[enc f.1, enc f.2]] w fun e w' => e = .returned (.bool (impS fs f)) ∧ Below w.heap.size w w' := by
  have hb := below_alloc w (.cells #[enc f.1, enc f.2] 49)
  have C := hid (fun i : After (w.alloc (.cells #[enc f.1, enc f.2] 49)) => Calls.after i (close_any fs f.1 v i.world ((hv.below hb).below i.below)))
  obtain ⟨ao, cap, rfl, -⟩ := hv.split
  have e : impS fs f = (f.2 &&& ~~~ closeS fs f.1 == 0#32) := by rw [beq_sub']; rfl
  rw [e]
  have B := hid hb
  clear e hb hv
  generalize closeS fs f.1 = c at *
  have e0 : ∀ i : After (w.alloc (.cells #[enc f.1, enc f.2] 49)), i.world.cell? ⟨w.heap.size, 0, none⟩ = some (.int .u32 (iv f.1)) := fun i => After.cell (by simp [enc]) i
  have e1 : ∀ i : After (w.alloc (.cells #[enc f.1, enc f.2] 49)), i.world.cell? ⟨w.heap.size, 1, none⟩ = some (.int .u32 (iv f.2)) := fun i => After.cell (by simp [enc]) i
  unfold enc at *
  go_enter Tryz.func35, Tryz.ntmps35
  go_wp2_with fail
  refine wp_region_after (by kernel_rfl) (by kernel_rfl) ?_
  repeat (any_goals (quiet_step (exact C.out _)))
  refine wpQuiet_nil ?_
  intro wq hq
  have BQ := hid (B.out.trans (hq.mono B.out.size))
  clear hq
  go_wp2_with fail
  go_ret
  exact ⟨rfl, BQ.out⟩



/-- The least index of a dependency that enlarges a set, or -1. -/
def enlI (fs : List F) (s : S) : Int := match fs.findIdx? (enl s) with
  | none => -1
  | some i => i
theorem enlI_none {fs : List F} {s : S} (h : fs.any (enl s) = false) : fs.findIdx? (enl s) = none := by
  rw [List.findIdx?_eq_none_iff]
  intro x hx
  rw [List.any_eq_false] at h
  simpa using h x hx
theorem enlI_hit {fs : List F} {s : S} {k : Nat} {f : F} (hf : fs[k]? = some f) (h : enl s f = true) (hn : (fs.take k).any (enl s) = false) : fs.findIdx? (enl s) = some k := by
  obtain ⟨hk, rfl⟩ := List.getElem?_eq_some_iff.1 hf
  rw [List.findIdx?_eq_some_iff_getElem]
  refine ⟨hk, h, fun j hj => ?_⟩
  rw [List.any_eq_false] at hn
  have hm : fs[j]'(by omega) ∈ fs.take k := by
    rw [List.mem_take_iff_getElem]
    exact ⟨j, by omega, rfl⟩
  simpa using hn _ hm

theorem enlarges_any (fs : List F) (s : S) (v : Value) (w : World) (hv : RdF w v fs) :
    Calls Tryz.prog 62 #[v, enc s] w fun e w' => e = .returned (.int .i64 (enlI fs s)) ∧ Below w.heap.size w w' := by
  obtain ⟨ao, cap, rfl, h2, h3⟩ := hv.split
  clear hv
  unfold enc at *
  go_enter Tryz.func62, Tryz.ntmps62
  go_wp2_with fail
  go_loopw [9] (fun i wr => ∃ k : Nat, k ≤ fs.length ∧ i = .int .i64 k ∧ Hid ((fs.take k).any (enl s) = false) ∧ Below w.heap.size w wr) (fun i _ => fs.length - (intOf i).toNat)
  case atStart => exact ⟨0, Nat.zero_le _, rfl, hid rfl, Below.refl _ _⟩
  case round =>
    obtain ⟨k, hk, rfl, H, hnx⟩ := hrel
    have hnx' := fun o => hnx.alloc hnx.size o
    by_cases hlt : k < fs.length
    · obtain ⟨f, hf⟩ := get_some hlt
      obtain ⟨b, off, rfl, hc⟩ := h3 k f hf
      obtain ⟨e0, e1⟩ := hc wr hnx
      have X := hid hf
      have N := hid hnx'
      clear hf hc h3 hnx'
      cases hq : decide (sub f.1 s) with
      | false =>
        have E := hid (show enl s f = false by unfold enl; rw [hq]; rfl)
        have q : (f.1 &&& ~~~ s == 0#32) = false := by rw [beq_sub']; exact hq
        clear hq
        go_wp2_with fail
        go_roundw
        case rel => exact ⟨k + 1, by omega, by go_num, hid (none_next X.out E.out H.out), N.out _⟩
        case measure => simp [intOf]; omega
      | true =>
        have q : (f.1 &&& ~~~ s == 0#32) = true := by rw [beq_sub']; exact hq
        cases hq2 : decide (sub f.2 s) with
        | false =>
          have E := hid (enlI_hit X.out (show enl s f = true by unfold enl; rw [hq, hq2]; rfl) H.out)
          have q2 : (f.2 &&& ~~~ s != 0#32) = true := by unfold bne; rw [beq_sub', hq2]; rfl
          clear hq hq2
          go_wp2_with fail
          go_ret
          exact ⟨by unfold enlI; rw [E.out]; rfl, N.out _⟩
        | true =>
          have E := hid (show enl s f = false by unfold enl; rw [hq, hq2]; rfl)
          have q2 : (f.2 &&& ~~~ s != 0#32) = false := by unfold bne; rw [beq_sub', hq2]; rfl
          clear hq hq2
          go_wp2_with fail
          go_roundw
          case rel => exact ⟨k + 1, by omega, by go_num, hid (none_next X.out E.out H.out), N.out _⟩
          case measure => simp [intOf]; omega
    · go_wp2_with fail
      go_ret
      exact ⟨by unfold enlI; rw [enlI_none (any_end H.out hlt)]; rfl, hnx⟩

end Go.Proofs.YtcfcmalaabmceaaGreatDoor


/- The walks over lists of dependencies, on: Missing, Equivalent, Valid, Clone. -/
namespace Go.Proofs.YtcfcmalaabmceaaGreatDoor
open Go.RowKit







end Go.Proofs.YtcfcmalaabmceaaGreatDoor


/- The walks of Valid of a list of dependencies and of its Clone. -/
namespace Go.Proofs.YtcfcmalaabmceaaGreatDoor
open Go.RowKit

/-- A dependency over the first n attributes. -/
def outF (n : Nat) (f : F) : Bool := (f.1 ||| f.2) >>> n != 0#32
theorem outF_sub (n : Nat) (f : F) : outF n f = !(decide (sub f.1 (fullN n)) && decide (sub f.2 (fullN n))) := by
  unfold outF bne
  congr 1
  rw [Bool.eq_iff_iff, beq_iff_eq, Bool.and_eq_true, decide_eq_true_iff, decide_eq_true_iff, ← sub_full]
  exact ⟨fun h => ⟨sub_trans (sub_or_left _ _) h, sub_trans (sub_or_right _ _) h⟩, fun h => or_sub h.1 h.2⟩
/-- The error of a list. -/
def validF (n : Int) (fs : List F) : Int :=
  if n < 0 ∨ 16 < n then 7 else if 64 < fs.length then 3 else if fs.any (outF n.toNat) then 1 else 0

theorem validF_any (n : Int) (fs : List F) (v : Value) (w : World) (hv : RdF w v fs) :
    Calls Tryz.prog 32 #[.int .i64 n, v] w fun e w' => e = .returned (.int .i64 (validF n fs)) ∧ Below w.heap.size w w' := by
  obtain ⟨ao, cap, rfl, h2, h3⟩ := hv.split
  clear hv
  by_cases hn : n < 0 ∨ 16 < n
  · have e : validF n fs = 7 := by unfold validF; rw [if_pos hn]
    rw [e]; clear e
    go_enter Tryz.func32, Tryz.ntmps32
    rcases hn with hn | hn
    · go_wp2_with fail
      go_ret
      exact ⟨rfl, Below.refl _ _⟩
    · have h0 : ¬ n < 0 := by omega
      go_wp2_with fail
      go_ret
      exact ⟨rfl, Below.refl _ _⟩
  · obtain ⟨m, rfl⟩ := Int.eq_ofNat_of_zero_le (show 0 ≤ n by omega)
    have h16 : m ≤ 16 := by omega
    by_cases hl : 64 < fs.length
    · have e : validF m fs = 3 := by unfold validF; rw [if_neg hn, if_pos hl]
      rw [e]
      clear e hn
      go_enter Tryz.func32, Tryz.ntmps32
      go_wp2_with fail
      go_ret
      exact ⟨rfl, Below.refl _ _⟩
    · have e : validF m fs = if fs.any (outF m) then 1 else 0 := by unfold validF; rw [if_neg hn, if_neg hl, Int.toNat_natCast]
      rw [e]
      obtain ⟨r, hr⟩ : ∃ r : Int, (if fs.any (outF m) then 1 else 0) = r := ⟨_, rfl⟩
      rw [hr]
      have R := hid hr
      clear e hn hr
      go_enter Tryz.func32, Tryz.ntmps32
      go_wp2_with fail
      go_loopw [18] (fun i wr => ∃ k : Nat, k ≤ fs.length ∧ i = .int .i64 k ∧ Hid ((fs.take k).any (outF m) = false) ∧ Below w.heap.size w wr) (fun i _ => fs.length - (intOf i).toNat)
      case atStart => exact ⟨0, Nat.zero_le _, rfl, hid rfl, Below.refl _ _⟩
      case round =>
        obtain ⟨k, hk, rfl, H, hnx⟩ := hrel
        by_cases hlt : k < fs.length
        · obtain ⟨f, hf⟩ := get_some hlt
          obtain ⟨b, off, rfl, hc⟩ := h3 k f hf
          obtain ⟨e0, e1⟩ := hc wr hnx
          have X := hid hf
          have N := hid (fun o => hnx.alloc hnx.size o)
          clear hf hc h3
          cases hq : (f.1 ||| f.2) >>> m != 0#32 with
          | true =>
            have E := hid (show outF m f = true from hq)
            go_wp2_with fail
            go_ret
            exact ⟨by rw [← R.out, any_hit X.out E.out]; rfl, N.out _⟩
          | false =>
            have E := hid (show outF m f = false from hq)
            go_wp2_with fail
            go_roundw
            case rel => exact ⟨k + 1, by omega, by go_num, hid (none_next X.out E.out H.out), N.out _⟩
            case measure => simp [intOf]; omega
        · go_wp2_with fail
          go_ret
          exact ⟨by rw [← R.out, any_end H.out hlt]; rfl, hnx⟩


theorem infoFD : (Tryz.prog.info? 49).map (fun i => (i.zero, i.size, i.bytes)) = some (some (.agg #[.int .u32 0, .int .u32 0]), 2, 8) := by kernel_rfl
theorem undFDs : Tryz.prog.underlying 38 = some (.slice 49) := by kernel_rfl


end Go.Proofs.YtcfcmalaabmceaaGreatDoor


/- The walks of Trace, the program's and the reference's. -/
namespace Go.Proofs.YtcfcmalaabmceaaGreatDoor
open Go.RowKit

theorem enlI_cases (fs : List F) (s : S) : (fs.findIdx? (enl s) = none ∧ enlI fs s = -1) ∨ ∃ i f, fs[i]? = some f ∧ fs.findIdx? (enl s) = some i ∧ enlI fs s = (i : Int) ∧ enl s f = true ∧ i < fs.length := by
  unfold enlI
  cases h : fs.findIdx? (enl s) with
  | none => exact .inl ⟨rfl, rfl⟩
  | some i =>
    obtain ⟨hi, he, _⟩ := List.findIdx?_eq_some_iff_getElem.1 h
    exact .inr ⟨i, fs[i], List.getElem?_eq_getElem hi, rfl, rfl, he, hi⟩

theorem trace_any (fs : List F) (s : S) (v : Value) (w : World) (hv : RdF w v fs) :
    Calls Tryz.prog 37 #[v, enc s] w fun e w' => ∃ v', e = .returned v' ∧ w'.ownsRow w.heap.size 3 1 v' (traceS fs s).length ((traceS fs s).map encI) ∧ (traceS fs s).length ≤ 4294967296 ∧ Below w.heap.size w w' := by
  have C := hid (fun (s : S) (W : World) (hb : Below w.heap.size w W) => enlarges_any fs s v W (hv.below hb))
  obtain ⟨ao, cap, rfl, h2, h3⟩ := hv.split
  clear hv
  unfold enc at *
  go_enter Tryz.func37, Tryz.ntmps37
  go_wp2_with fail
  refine (C.out s _ (Below.refl _ _)).mono ?_
  rintro e w1 ⟨rfl, hb1⟩
  go_wp2_with fail
  go_loopw [1, 5, 6] (fun u o i wr => ∃ (t : S) (out : List Nat), u = .int .u32 (iv t) ∧ i = .int .i64 (enlI fs t) ∧ wr.ownsRow w.heap.size 3 1 o out.length (out.map encI) ∧ Hid (out ++ traceS fs t = traceS fs s) ∧ out.length ≤ t.toNat ∧ Below w.heap.size w wr) (fun u _ _ _ => 4294967296 - (intOf u).toNat)
  case atStart => exact ⟨s, [], rfl, rfl, World.ownsRow_nil _ _ _ _, hid rfl, Nat.zero_le _, hb1⟩
  case round =>
    obtain ⟨t, out, rfl, rfl, hown, T, hlen, hnx⟩ := hrel
    have ht := t.isLt
    have hsz := hnx.size
    rcases enlI_cases fs t with ⟨hn, he⟩ | ⟨i, f, hf, hn, he, hen, hlt⟩
    · rw [he]
      have T2 := T.out
      rw [traceS_none hn, List.append_nil] at T2
      have T3 := hid T2
      clear he hn T T2
      go_wp2_with fail
      go_ret
      rw [← T3.out]
      exact ⟨_, rfl, hown, by omega, hnx⟩
    · rw [he]
      have T2 := T.out
      rw [traceS_some hn hf] at T2
      have T3 := hid T2
      have hg := enl_grows hen
      obtain ⟨b, off, rfl, hc⟩ := h3 i f hf
      obtain ⟨e0, e1⟩ := hc wr hnx
      have hi0 : (0 : Int) ≤ (i : Int) := by omega
      have hi1 : (i : Int) < (fs.length : Int) := by omega
      clear he hn T T2 hc h3 hf hen
      go_wp2_with (at_builtin; refine wpList_push rfl _ _ 102 rfl w.heap.size 3 (.int .i64 0) 8 undInts infoInt rfl (by decide) encI (fun _ => rfl) _ out rfl (hown.alloc _) ⟨wr.heap.size, 0, none⟩ i rfl cell_new (by omega) (by simp; omega) ?_)
      intro v' w2 hown' hgrow
      have hb2 := below_push hnx hsz hown hgrow
      clear hgrow hown hnx
      have B2 := hid hb2
      go_wp2_with fail
      refine (C.out (t ||| f.2) _ hb2).mono ?_
      rintro e w3 ⟨rfl, hb3⟩
      have B3 := hid (B2.out.trans (hb3.mono B2.out.size))
      have hown3 := own_below hown' hb3
      clear hb3 hown' hb2
      go_wp2_with fail
      go_roundw
      case rel =>
        refine ⟨t ||| f.2, out ++ [i], rfl, rfl, by simpa using hown3, hid (by rw [← T3.out]; simp), ?_, B3.out⟩
        simp only [List.length_append, List.length_singleton]
        omega
      case measure => simp [intOf, iv]; simp at hg; omega


end Go.Proofs.YtcfcmalaabmceaaGreatDoor

