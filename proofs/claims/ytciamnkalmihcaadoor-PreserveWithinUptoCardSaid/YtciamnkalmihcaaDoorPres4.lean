/- The walks of preserve's Kept, Trace, Preserves, Lost and All. -/
import Derived.Test.YtciamnkalmihcaaDoorPres3
import Derived.Test.YtciamnkalmihcaaDoorGMid
namespace Go.Proofs.YtciamnkalmihcaaDoor
open Go.RowKit

theorem kept_any (fs : List F) (ps : List S) (z : S) (v u : Value) (w : World) (hv : RdF w v fs) (hu : RdE enc w u ps) :
    Calls Tryd.prog 22 #[v, u, enc z] w fun e w' => e = .returned (enc (keptS fs ps z)) ∧ Below w.heap.size w w' := by
  have C := hid (follow_any fs ps z v u w hv hu)
  have E := hid (show keptS fs ps z = (followS fs ps z).1 from rfl)
  rw [E.out]
  obtain ⟨ao, cap, rfl, -⟩ := hv.split
  obtain ⟨bo, bcap, rfl, -⟩ := hu.split
  clear hv hu E
  generalize followS fs ps z = r at *
  simp only [enc_eq] at C ⊢
  go_enter Tryd.func22, Tryd.ntmps22
  go_wp2_with fail
  refine C.out.mono ?_
  rintro e w1 ⟨v1, rfl, -, hb⟩
  have B := hid hb
  clear hb
  go_wp2_with fail
  go_ret
  exact ⟨rfl, B.out⟩

theorem ptrace_any (fs : List F) (ps : List S) (z : S) (v u : Value) (w : World) (hv : RdF w v fs) (hu : RdE enc w u ps) :
    Calls Tryd.prog 27 #[v, u, enc z] w fun e w' => ∃ v', e = .returned v' ∧ RdE encI w' v' (followS fs ps z).2 ∧ Below w.heap.size w w' := by
  have C := hid (follow_any fs ps z v u w hv hu)
  obtain ⟨ao, cap, rfl, -⟩ := hv.split
  obtain ⟨bo, bcap, rfl, -⟩ := hu.split
  clear hv hu
  generalize followS fs ps z = r at *
  simp only [enc_eq] at C ⊢
  go_enter Tryd.func27, Tryd.ntmps27
  go_wp2_with fail
  refine C.out.mono ?_
  rintro e w1 ⟨v1, rfl, hr, hb⟩
  have B := hid hb
  have R := hid hr
  clear hb hr
  go_wp2_with fail
  go_ret
  exact ⟨_, rfl, R.out, B.out⟩

/-- A dependency is preserved. -/
noncomputable def presB (fs : List F) (ps : List S) (f : F) : Bool := decide (sub f.2 (keptS fs ps f.1))
theorem preserves_any (fs : List F) (ps : List S) (f : F) (v u : Value) (w : World) (hv : RdF w v fs) (hu : RdE enc w u ps) :
    Calls Tryd.prog 24 #[v, u, .agg #[enc f.1, enc f.2]] w fun e w' => e = .returned (.bool (presB fs ps f)) ∧ Below w.heap.size w w' := by
  have hb := below_alloc w (.cells #[enc f.1, enc f.2] 34)
  have C := hid (fun i : After (w.alloc (.cells #[enc f.1, enc f.2] 34)) => Calls.after i (kept_any fs ps f.1 v u i.world ((hv.below hb).below i.below) ((hu.below hb).below i.below)))
  obtain ⟨ao, cap, rfl, -⟩ := hv.split
  obtain ⟨bo, bcap, rfl, -⟩ := hu.split
  have e : presB fs ps f = (f.2 &&& ~~~ keptS fs ps f.1 == 0#32) := by rw [beq_sub']; rfl
  rw [e]
  have B := hid hb
  clear e hb hv hu
  generalize keptS fs ps f.1 = c at *
  have e0 : ∀ i : After (w.alloc (.cells #[enc f.1, enc f.2] 34)), i.world.cell? ⟨w.heap.size, 0, none⟩ = some (.int .u32 (iv f.1)) := fun i => After.cell (by simp [enc]) i
  have e1 : ∀ i : After (w.alloc (.cells #[enc f.1, enc f.2] 34)), i.world.cell? ⟨w.heap.size, 1, none⟩ = some (.int .u32 (iv f.2)) := fun i => After.cell (by simp [enc]) i
  unfold enc at *
  go_enter Tryd.func24, Tryd.ntmps24
  go_wp2_with fail
  refine wp_region_after (by kernel_rfl) (by kernel_rfl) ?_
  repeat (any_goals (quiet_step (exact C.out _)))
  refine wpQuiet_nil ?_
  intro wq hq
  have BQ := hid (B.out.trans (hq.mono B.out.size))
  clear hq
  go_wp2_with fail
  go_ret
  exact ⟨rfl, BQ.out⟩

/-- The places of the dependencies that are lost. -/
noncomputable def lostB (fs : List F) (ps : List S) (i : Nat) : Bool := !presB fs ps (fs.getD i (0#32, 0#32))
noncomputable def lostI (fs : List F) (ps : List S) : List Nat := (List.range fs.length).filter (lostB fs ps)
theorem lostB_at {fs : List F} {ps : List S} {i : Nat} {f : F} (h : fs[i]? = some f) : lostB fs ps i = !presB fs ps f := by unfold lostB; simp [List.getD, h]
theorem lostI_length (fs : List F) (ps : List S) : (lostI fs ps).length ≤ fs.length := by
  unfold lostI; exact Nat.le_trans (List.length_filter_le _ _) (by simp)

set_option maxHeartbeats 800000 in
set_option maxRecDepth 100000 in
theorem lost_any (fs : List F) (ps : List S) (v u : Value) (w : World) (hv : RdF w v fs) (hu : RdE enc w u ps) (hl : fs.length < 1099511627776) :
    Calls Tryd.prog 30 #[v, u] w fun e w' => ∃ v', e = .returned v' ∧ RdE encI w' v' (lostI fs ps) ∧ Below w.heap.size w w' := by
  have C := hid (fun (f : F) (W : World) (h : Below w.heap.size w W) => preserves_any fs ps f v u W (hv.below h) (hu.below h))
  obtain ⟨ao, cap, rfl, -, hc⟩ := hv.split
  obtain ⟨bo, bcap, rfl, -⟩ := hu.split
  have FC := hid hc
  clear hv hu hc
  simp only [enc_eq] at C
  go_enter Tryd.func30, Tryd.ntmps30
  go_wp2_with fail
  go_loopw [5, 10] (fun o i wr => ∃ k : Nat, k ≤ fs.length ∧ i = .int .i64 k ∧ wr.ownsRow w.heap.size 3 1 o (((List.range fs.length).take k).filter (lostB fs ps)).length ((((List.range fs.length).take k).filter (lostB fs ps)).map encI) ∧ Below w.heap.size w wr) (fun _ i _ => fs.length - (intOf i).toNat)
  case atStart => exact ⟨0, Nat.zero_le _, rfl, World.ownsRow_nil _ _ _ _, Below.refl _ _⟩
  case round =>
    obtain ⟨k, hk, rfl, hown, hnx⟩ := hrel
    have hsz := hnx.size
    have hfl : (((List.range fs.length).take k).filter (lostB fs ps)).length ≤ k := Nat.le_trans (List.length_filter_le _ _) (by simp; omega)
    by_cases hlt : k < fs.length
    · obtain ⟨f, hf⟩ := get_some hlt
      obtain ⟨b, off, rfl, hfc⟩ := FC.out k f hf
      obtain ⟨e0, e1⟩ := hfc wr hnx
      have FN := hid (filter_next (range_next hlt) (lostB fs ps))
      have LB := hid (lostB_at (ps := ps) hf)
      have HB := hid (below_alloc wr (.cells #[.int .u32 (iv f.1), .int .u32 (iv f.2)] 34))
      have hn1 := hnx.trans (HB.out.mono hsz)
      have C1 := hid (C.out f _ hn1)
      have O1 := hid (own_below hown HB.out)
      have N1 := hid hn1
      clear hfc hf hown hnx hn1
      generalize ((List.range fs.length).take k).filter (lostB fs ps) = zs at *
      cases hq : presB fs ps f with
      | false =>
        rw [hq] at C1
        have FN2 := hid (FN.out.trans (by rw [if_pos (by rw [LB.out, hq]; rfl)]))
        clear FN hq LB
        go_wp2_with fail
        refine C1.out.mono ?_
        rintro e w3 ⟨rfl, hb3⟩
        have hown3 := own_below O1.out hb3
        have hnx3 := N1.out.trans (hb3.mono N1.out.size)
        have hsz3 := hnx3.size
        clear hb3 O1 N1 e0 e1
        go_wp2_with (at_builtin; refine wpList_push rfl _ _ 57 rfl w.heap.size 3 (.int .i64 0) 8 undInts infoInt rfl (by decide) encI (fun _ => rfl) _ zs rfl (hown3.alloc _) ⟨w3.heap.size, 0, none⟩ k rfl cell_new (by omega) (by simp; omega) ?_)
        intro v' w4 hown' hgrow
        have hb4 := below_push hnx3 hsz3 hown3 hgrow
        clear hgrow hown3 hnx3
        go_wp2_with fail
        go_roundw
        case rel => exact ⟨k + 1, by omega, by go_num, by rw [FN2.out]; simpa using hown', hb4⟩
        case measure => simp [intOf]; omega
      | true =>
        rw [hq] at C1
        have FN2 := hid (FN.out.trans (by rw [if_neg (by rw [LB.out, hq]; simp), List.append_nil]))
        clear FN hq LB
        go_wp2_with fail
        refine C1.out.mono ?_
        rintro e w3 ⟨rfl, hb3⟩
        have hown3 := own_below O1.out hb3
        have hnx3 := N1.out.trans (hb3.mono N1.out.size)
        clear hb3 O1 N1 e0 e1
        go_wp2_with fail
        go_roundw
        case rel => exact ⟨k + 1, by omega, by go_num, by rw [FN2.out]; exact hown3, hnx3⟩
        case measure => simp [intOf]; omega
    · rw [List.take_of_length_le (by simp; omega)] at hown
      have R := hid (RdE.of_owns hown (by have := lostI_length fs ps; unfold lostI at this; omega))
      go_wp2_with fail
      go_ret
      exact ⟨_, rfl, R.out, hnx⟩

theorem all_any (fs : List F) (ps : List S) (v u : Value) (w : World) (hv : RdF w v fs) (hu : RdE enc w u ps) (hl : fs.length < 1099511627776) :
    Calls Tryd.prog 31 #[v, u] w fun e w' => e = .returned (.bool ((lostI fs ps).length == 0)) ∧ Below w.heap.size w w' := by
  have C := hid (lost_any fs ps v u w hv hu hl)
  obtain ⟨ao, cap, rfl, -⟩ := hv.split
  obtain ⟨bo, bcap, rfl, -⟩ := hu.split
  clear hv hu
  generalize lostI fs ps = r at *
  go_enter Tryd.func31, Tryd.ntmps31
  go_wp2_with fail
  refine C.out.mono ?_
  rintro e w1 ⟨v1, rfl, hr, hb⟩
  have B := hid hb
  obtain ⟨xo, xcap, rfl, -⟩ := hr.split
  clear hb hr
  go_wp2_with fail
  go_ret
  exact ⟨ret_bool (by rw [Bool.eq_iff_iff]; simp), B.out⟩

end Go.Proofs.YtciamnkalmihcaaDoor
