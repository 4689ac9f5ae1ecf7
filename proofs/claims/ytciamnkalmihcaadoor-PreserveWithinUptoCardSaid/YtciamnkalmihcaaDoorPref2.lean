/- The walks of the reference of chapter 22: Project, first, Kept, Trace, Preserves, Lost. -/
import Derived.Test.YtciamnkalmihcaaDoorPref
namespace Go.Proofs.YtciamnkalmihcaaDoor
open Go.RowKit

theorem projE_split {fs : List F} {s : S} (h : projE fs s = 0) : validF 16 fs = 0 ∧ (s >>> 16 != 0#32) = false ∧ ¬ 8 < pop s := by
  unfold projE at h
  split at h
  · exact absurd h (by assumption)
  · rename_i h1
    split at h
    · simp at h
    · rename_i h2
      split at h
      · simp at h
      · exact ⟨by simpa using h1, by simpa using h2, by assumption⟩
theorem sub_full16 (s : S) : decide (sub s (fullN 16)) = !(s >>> 16 != 0#32) := by
  rw [Bool.eq_iff_iff, decide_eq_true_iff, sub_full]; simp

set_option maxHeartbeats 1600000 in
set_option maxRecDepth 100000 in
theorem refProject_ok (fs : List F) (s : S) (v : Value) (w : World) (hv : RdF w v fs) (hE : projE fs s = 0) :
    Calls Tryd.prog 14 #[v, enc s] w fun e w' => ∃ v', e = .returned (.tuple #[v', .int .i64 0]) ∧ w'.ownsRow w.heap.size 34 2 v' (projS fs s (subsS s)).length ((projS fs s (subsS s)).flatMap cF) ∧ Below w.heap.size w w' := by
  have V := hid (refValidF_any 16 fs v w hv)
  have FU := hid (full_any 16 w)
  have SB := hid (sub_any s (fullN (min (16 : Int).toNat 32)) w)
  have SZ := hid (size_any s w)
  have WI := hid (fun (W : World) (h : Below w.heap.size w W) => refWithin_any fs s v W (hv.below h))
  have OT := hid (fun (l : List F) (i : Nat) (hi : i < l.length) (u : Value) (W : World) (h : RdF W u l) (hh : l.length < 1099511627776) => refOthers_any l i hi u W h hh)
  have IM := hid (fun (l : List F) (f : F) (u : Value) (W : World) (h : RdF W u l) => refImplies_any l f u W h)
  have MG := hid (fun (l : List F) (u : Value) (W : World) (h : RdF W u l) (hh : l.length < 1099511627776) => refMerge_any l u W h hh)
  obtain ⟨hz1, hz2, hz3⟩ := projE_split hE
  rw [hz1] at V
  rw [show min (16 : Int).toNat 32 = 16 from rfl, sub_full16, hz2] at SB
  rw [show min (16 : Int).toNat 32 = 16 from rfl] at FU
  have hd8 : decide ((pop s : Int) > 8) = false := by simp; omega
  obtain ⟨ds, hds⟩ : ∃ ds, dropS (wL fs s (subsS s)) 0 = ds := ⟨_, rfl⟩
  rw [show projS fs s (subsS s) = mergeF ds by rw [← hds]; rfl]
  have DS := hid hds
  obtain ⟨ao, cap, rfl, -⟩ := hv.split
  clear hv hE hz1 hz2 hz3 hds
  generalize pop s = p at SZ hd8
  generalize fullN 16 = fl at *
  simp only [enc_eq] at SZ FU SB WI ⊢
  go_enter Tryd.func14, Tryd.ntmps14
  go_wp2_with fail
  refine (V.out).mono ?_
  rintro e w' ⟨rfl, rfl⟩
  go_wp2_with fail
  refine FU.out.mono ?_
  rintro e w' ⟨rfl, rfl⟩
  go_wp2_with fail
  refine SB.out.mono ?_
  rintro e w' ⟨rfl, rfl⟩
  go_wp2_with fail
  refine SZ.out.mono ?_
  rintro e w1 ⟨rfl, hb1⟩
  have B1 := hid hb1
  clear hb1
  go_wp2_with fail
  refine (WI.out _ B1.out).mono ?_
  rintro e w2 ⟨v2, rfl, ho2, hln, hb2⟩
  have B2 := hid (B1.out.trans (hb2.mono B1.out.size))
  have O2 := hid (own_mono ho2 B1.out.size)
  clear ho2 hb2
  generalize wL fs s (subsS s) = l1 at *
  go_wp2_with fail
  go_loopw [7, 8] (fun u i wr => ∃ (l : List F) (i' : Nat), i' ≤ l.length ∧ l.length ≤ l1.length ∧ i = .int .i64 i' ∧ lenOf u = l.length ∧ wr.ownsRow w.heap.size 34 2 u l.length (l.flatMap cF) ∧ Hid (dropS l i' = ds) ∧ Below w.heap.size w wr) (fun u i _ => lenOf u - (intOf i).toNat)
  case atStart =>
    refine ⟨l1, 0, Nat.zero_le _, Nat.le_refl _, rfl, ?_, O2.out, hid DS.out, B2.out⟩
    obtain ⟨ao, cap, rfl⟩ := (show RdF w2 v2 l1 from RdC.of_owns cF_length O2.out (by omega)).form
    rfl
  case round =>
    obtain ⟨l, i, hil, hll1, rfl, hlo, hown, D, hnx⟩ := hrel
    obtain ⟨wo, rfl⟩ : ∃ wo : World, wo = wr := ⟨_, rfl⟩
    have hsz := hnx.size
    have R := hid (show RdF wo u7 l from RdC.of_owns cF_length hown (by omega))
    obtain ⟨uo, ucap, rfl⟩ := R.out.form
    by_cases hlt : i < l.length
    · obtain ⟨f, hf⟩ := get_some hlt
      obtain ⟨ao', cap', he, -, hfc⟩ := R.out.split
      cases he
      obtain ⟨b, off, rfl, hfd⟩ := hfc i f hf
      have HS := hid (fun (W : World) (h : Below wo.heap.size wo W) => And.intro h (hfd W h))
      have C1 := hid (fun (W : World) (hb : Below wo.heap.size wo W) => OT.out l i hlt _ W (R.out.below hb) (by omega))
      have C2 := hid (fun (u : Value) (W : World) (hu : RdF W u (othersF l i)) => IM.out (othersF l i) f u W hu)
      have hol := others_length hlt
      have RO := hid (fun (u : Value) (W : World) (B : Nat) (h : W.ownsRow B 34 2 u (othersF l i).length ((othersF l i).flatMap cF)) => RdC.of_owns cF_length h (by omega))
      have RB := hid (redB_at hf)
      have DY := hid (fun h => (dropS_yes hlt h).symm.trans D.out)
      have DN := hid (fun h => (dropS_no hlt h).symm.trans D.out)
      have HN := hid hnx
      have HOW := hid hown
      rw [← RB.out] at C2
      have hil1 : (i : Int) < (l.length : Int) := by omega
      have hi0 : (0 : Int) ≤ (i : Int) := by omega
      clear hfc hfd hf hnx hown RB D
      generalize othersF l i = gs at *
      generalize redB l i = r at *
      simp only [enc_eq] at C2
      go_wp2_with fail
      go_region_held3 (fun W => Below wo.heap.size wo W ∧ W.cell? ⟨b, off + i * 2, none⟩ = some (.int .u32 (iv f.1)) ∧ W.cell? ⟨b, off + i * 2 + 1, none⟩ = some (.int .u32 (iv f.2)))
        (first | exact HS.out _ (Below.refl _ _).drew | exact HS.out _ (by assumption))
        (first
          | (go_at_call 47; have hS := And.left ‹Below wo.heap.size wo _ ∧ _ ∧ _›; refine (C1.out _ hS).mono ?_; rintro e w3 ⟨v3, rfl, ho3, hb3⟩; have hL := later hS hb3; have hr3 := RO.out _ _ _ ho3; clear hb3 hS ho3)
          | (go_at_call 20; have hS := And.left ‹Below wo.heap.size wo _ ∧ _ ∧ _›; refine (C2.out _ _ (by assumption)).mono ?_; rintro e w4 ⟨rfl, hb4⟩; have hL := later hS hb4; clear hb4 hS))
      all_goals
        have HL := hid hL
        clear hL
        have N4 := hid (HN.out.trans (HL.out.mono HN.out.size))
        have O4 := hid (own_below HOW.out HL.out)
        have C4 := hid (C1.out _ HL.out)
        cases r with
        | true =>
          have D2 := hid (DY.out rfl)
          go_wp2_with fail
          refine C4.out.mono ?_
          rintro e w5 ⟨v5, rfl, ho5, hb5⟩
          have N5 := hid (N4.out.trans (hb5.mono N4.out.size))
          have O5 := hid (own_mono ho5 N4.out.size)
          have hv5 : lenOf v5 = gs.length := by
            obtain ⟨ao, cap, rfl⟩ := (RO.out _ _ _ ho5).form
            rfl
          have HV := hid hv5
          have HOL := hid hol
          clear ho5 hb5 hv5
          go_wp2_with fail
          go_roundw
          case rel => exact ⟨gs, i, by rw [HOL.out]; omega, by rw [HOL.out]; omega, rfl, HV.out, O5.out, D2, N5.out⟩
          case measure => rw [HV.out, HOL.out]; simp [intOf, lenOf]; omega
        | false =>
          have D2 := hid (DN.out rfl)
          go_wp2_with fail
          go_roundw
          case rel => exact ⟨l, i + 1, by omega, hll1, by go_num, rfl, O4.out, D2, N4.out⟩
          case measure => simp [intOf, lenOf]; omega
    · have D2 := hid ((dropS_end hlt).symm.trans D.out)
      have hll2 : l.length < 1099511627776 := by omega
      have BF := hid hnx
      have G := hid (MG.out l _ wo R.out hll2)
      clear D hown hnx
      go_wp2_with fail
      refine G.out.mono ?_
      rintro e w5 ⟨v5, rfl, ho5, hb5⟩
      have B5 := hid (BF.out.trans (hb5.mono BF.out.size))
      have O5 := hid (own_mono ho5 BF.out.size)
      rw [D2.out] at O5
      clear hb5 ho5
      go_wp2_with fail
      go_ret2
      exact ⟨_, rfl, O5.out, B5.out⟩

theorem refProject_any (fs : List F) (s : S) (v : Value) (w : World) (hv : RdF w v fs) :
    Calls Tryd.prog 14 #[v, enc s] w fun e w' => ∃ v', e = .returned (.tuple #[v', .int .i64 (projE fs s)]) ∧ w'.ownsRow w.heap.size 34 2 v' (projR fs s).length ((projR fs s).flatMap cF) ∧ Below w.heap.size w w' := by
  by_cases hE : projE fs s = 0
  · have := refProject_ok fs s v w hv hE
    rw [hE, projR_of hE]; exact this
  · have PR := hid (show projR fs s = [] by unfold projR; rw [if_neg hE])
    rw [PR.out]
    have V := hid (refValidF_any 16 fs v w hv)
    have FU := hid (full_any 16 w)
    have SB := hid (sub_any s (fullN (min (16 : Int).toNat 32)) w)
    rw [show min (16 : Int).toNat 32 = 16 from rfl, sub_full16] at SB
    rw [show min (16 : Int).toNat 32 = 16 from rfl] at FU
    have SZ := hid (size_any s w)
    have PE := hid (show projE fs s = if validF 16 fs ≠ 0 then validF 16 fs else if s >>> 16 != 0#32 then 1 else if 8 < pop s then 3 else 0 from rfl)
    obtain ⟨ao, cap, rfl, -⟩ := hv.split
    clear hv PR
    generalize fullN 16 = fl at *
    simp only [enc_eq] at SZ FU SB ⊢
    cases h1 : (validF 16 fs != 0) with
    | true =>
      have e1 : projE fs s = validF 16 fs := by rw [PE.out, if_pos (by simpa using h1)]
      rw [e1]
      clear e1 PE hE
      generalize validF 16 fs = r at *
      go_enter Tryd.func14, Tryd.ntmps14
      go_wp2_with fail
      refine (V.out).mono ?_
      rintro e w' ⟨rfl, rfl⟩
      go_wp2_with fail
      go_ret2
      exact ⟨_, rfl, World.ownsRow_nil _ _ _ _, Below.refl _ _⟩
    | false =>
      have hz : validF 16 fs = 0 := by simpa using h1
      rw [hz] at V
      have PE := hid (PE.out.trans (if_neg (by simpa using hz)))
      clear h1 hz
      cases h2 : (s >>> 16 != 0#32) with
      | true =>
        have e1 : projE fs s = 1 := by rw [PE.out, if_pos h2]
        rw [e1]
        rw [h2] at SB
        clear e1 PE hE h2
        go_enter Tryd.func14, Tryd.ntmps14
        go_wp2_with fail
        refine (V.out).mono ?_
        rintro e w' ⟨rfl, rfl⟩
        go_wp2_with fail
        refine FU.out.mono ?_
        rintro e w' ⟨rfl, rfl⟩
        go_wp2_with fail
        refine SB.out.mono ?_
        rintro e w' ⟨rfl, rfl⟩
        go_wp2_with fail
        go_ret2
        exact ⟨_, rfl, World.ownsRow_nil _ _ _ _, Below.refl _ _⟩
      | false =>
        rw [h2] at SB
        have PE := hid (PE.out.trans (if_neg (by rw [h2]; simp)))
        have h8 : 8 < pop s := by
          apply Classical.byContradiction
          intro h; exact hE (PE.out.trans (if_neg h))
        have e1 : projE fs s = 3 := by rw [PE.out, if_pos h8]
        rw [e1]
        have hd8 : decide ((pop s : Int) > 8) = true := by simp; omega
        clear e1 PE hE h8 h2
        generalize pop s = p at *
        go_enter Tryd.func14, Tryd.ntmps14
        go_wp2_with fail
        refine (V.out).mono ?_
        rintro e w' ⟨rfl, rfl⟩
        go_wp2_with fail
        refine FU.out.mono ?_
        rintro e w' ⟨rfl, rfl⟩
        go_wp2_with fail
        refine SB.out.mono ?_
        rintro e w' ⟨rfl, rfl⟩
        go_wp2_with fail
        refine SZ.out.mono ?_
        rintro e w1 ⟨rfl, hb1⟩
        have B1 := hid hb1
        clear hb1
        go_wp2_with fail
        go_ret2
        exact ⟨_, rfl, World.ownsRow_nil _ _ _ _, B1.out⟩

/-! The closure under the projections. -/
theorem ret_set {a b : S} (h : a = b) : Ending.returned (.int .u32 (iv a)) = Ending.returned (.int .u32 (iv b)) := by rw [h]
theorem ret_iset {k : Int} {a b : S} (h : a = b) : Ending.returned (.tuple #[.int .i64 k, .int .u32 (iv a)]) = Ending.returned (.tuple #[.int .i64 k, .int .u32 (iv b)]) := by rw [h]

set_option maxHeartbeats 800000 in
theorem first_any (fs : List F) (ps : List S) (z : S) (v u : Value) (w : World) (hv : RdF w v fs) (hu : RdE enc w u ps) :
    Calls Tryd.prog 51 #[v, u, enc z] w fun e w' => ((∃ k p, ps.findIdx? (addsP fs z) = some k ∧ ps[k]? = some p ∧ e = .returned (.tuple #[.int .i64 (k : Int), enc (z ||| moreS fs p z)])) ∨ (ps.findIdx? (addsP fs z) = none ∧ e = .returned (.tuple #[.int .i64 (-1), enc z]))) ∧ Below w.heap.size w w' := by
  have C := hid (fun (p : S) (W : World) (hW : Below w.heap.size w W) (i : After W) => Calls.after i (refClose_any fs (z &&& p) v i.world (hv.below (hW.trans (i.below.mono hW.size)))))
  have SB := hid (fun (x : S) (W : World) => sub_any x z W)
  have OM := hid (fun (p : S) => (or_more z p (closeS fs (z &&& p))).symm)
  have MS := hid (fun (p : S) => show p &&& closeS fs (z &&& p) &&& ~~~ z = moreS fs p z from rfl)
  have AF := hid (fun (p : S) => adds_false (fs := fs) (z := z) (p := p))
  obtain ⟨ao, cap, rfl, -⟩ := hv.split
  obtain ⟨bo, bcap, rfl, hpl, hpc⟩ := hu.split
  have PC := hid hpc
  clear hv hu hpc
  simp only [enc_eq] at C SB ⊢
  go_enter Tryd.func51, Tryd.ntmps51
  go_wp2_with fail
  go_loopw [8] (fun i wr => ∃ k : Nat, k ≤ ps.length ∧ i = .int .i64 k ∧ Hid ((ps.take k).any (addsP fs z) = false) ∧ Below w.heap.size w wr) (fun i _ => ps.length - (intOf i).toNat)
  case atStart => exact ⟨0, Nat.zero_le _, rfl, hid rfl, Below.refl _ _⟩
  case round =>
    obtain ⟨k, hk, rfl, H, hnx⟩ := hrel
    obtain ⟨wo, rfl⟩ : ∃ wo : World, wo = wr := ⟨_, rfl⟩
    by_cases hlt : k < ps.length
    · obtain ⟨p, hp⟩ := get_some hlt
      obtain ⟨b, off, rfl, hpd⟩ := PC.out k p hp
      have e0 : ∀ i : After wo, i.world.cell? ⟨b, off + k, none⟩ = some (.int .u32 (iv p)) := fun i => hpd _ (hnx.trans (i.below.mono hnx.size))
      have C1 := hid (C.out p wo hnx)
      have SB1 := hid (SB.out (closeS fs (z &&& p) &&& p))
      have OM1 := hid (OM.out p)
      have MS1 := hid (MS.out p)
      have AF1 := hid (AF.out p)
      have XP := hid hp
      have HN := hid hnx
      have k0 : (0 : Int) ≤ (k : Int) := by omega
      have k1 : (k : Int) < (ps.length : Int) := by omega
      rw [MS1.out] at OM1
      clear hpd hp hnx
      generalize closeS fs (z &&& p) = c at *
      by_cases hq : sub (c &&& p) z
      · have A1 := hid (AF1.out.2 hq)
        rw [decide_eq_true hq] at SB1
        clear hq
        go_wp2_with fail
        refine wp_region_after (by kernel_rfl) (by kernel_rfl) ?_
        repeat (any_goals (quiet_step (exact C1.out _)))
        refine wpQuiet_nil ?_
        intro wq hb
        have BQ := hid (HN.out.trans (hb.mono HN.out.size))
        clear hb e0
        go_wp2_with fail
        refine (SB1.out _).mono ?_
        rintro e w3 ⟨rfl, rfl⟩
        go_wp2_with fail
        go_roundw
        case rel => exact ⟨k + 1, by omega, by go_num, hid (none_next XP.out A1.out H.out), BQ.out⟩
        case measure => simp [intOf]; omega
      · have A1 := hid (show addsP fs z p = true by
          cases h : addsP fs z p with
          | true => rfl
          | false => exact absurd (AF1.out.1 h) hq)
        rw [decide_eq_false hq] at SB1
        clear hq
        go_wp2_with fail
        refine wp_region_after (by kernel_rfl) (by kernel_rfl) ?_
        repeat (any_goals (quiet_step (exact C1.out _)))
        refine wpQuiet_nil ?_
        intro wq hb
        have BQ := hid (HN.out.trans (hb.mono HN.out.size))
        clear hb e0
        go_wp2_with fail
        refine (SB1.out _).mono ?_
        rintro e w3 ⟨rfl, rfl⟩
        go_wp2_with fail
        go_ret2
        exact ⟨.inl ⟨k, p, find_hit2 XP.out A1.out H.out, XP.out, ret_iset OM1.out⟩, BQ.out⟩
    · have HN := hid hnx
      clear hnx
      go_wp2_with fail
      go_ret2
      exact ⟨.inr ⟨find_none2 (any_end H.out hlt), rfl⟩, HN.out⟩

theorem refKept_any (fs : List F) (ps : List S) (z : S) (v u : Value) (w : World) (hv : RdF w v fs) (hu : RdE enc w u ps) :
    Calls Tryd.prog 23 #[v, u, enc z] w fun e w' => e = .returned (enc (keptS fs ps z)) ∧ Below w.heap.size w w' := by
  have C := hid (fun (x : S) (W : World) (h : Below w.heap.size w W) => first_any fs ps x v u W (hv.below h) (hu.below h))
  obtain ⟨ao, cap, rfl, -⟩ := hv.split
  obtain ⟨bo, bcap, rfl, -⟩ := hu.split
  clear hv hu
  simp only [enc_eq] at C ⊢
  go_enter Tryd.func23, Tryd.ntmps23
  go_wp2_with fail
  go_loopw [2] (fun x wr => ∃ y : S, x = .int .u32 (iv y) ∧ Hid (keptS fs ps z = keptS fs ps y) ∧ Below w.heap.size w wr) (fun x _ => 4294967296 - (intOf x).toNat)
  case atStart => exact ⟨z, rfl, hid rfl, Below.refl _ _⟩
  case round =>
    obtain ⟨y, rfl, H, hnx⟩ := hrel
    have C1 := hid (C.out y wr hnx)
    have HN := hid hnx
    have hyl := y.isLt
    clear hnx
    go_wp2_with fail
    refine C1.out.mono ?_
    rintro e w1 ⟨he, hb1⟩
    have B1 := hid (HN.out.trans (hb1.mono HN.out.size))
    clear hb1 C1
    rcases he with ⟨k, p, hf, hp, rfl⟩ | ⟨hf, rfl⟩
    · have H2 := hid (H.out.trans (show keptS fs ps y = keptS fs ps (y ||| moreS fs p y) by unfold keptS; rw [followS_some hf hp]))
      have hg : y.toNat < (y ||| moreS fs p y).toNat := by
        obtain ⟨_, he, _⟩ := List.findIdx?_eq_some_iff_getElem.1 hf
        obtain ⟨_, rfl⟩ := List.getElem?_eq_some_iff.1 hp
        exact adds_grows he
      have hd : decide ((k : Int) < 0) = false := by simp
      clear hf hp
      generalize y ||| moreS fs p y = z' at *
      have hzl := z'.isLt
      go_wp2_with fail
      go_roundw
      case rel => exact ⟨z', rfl, H2, B1.out⟩
      case measure => show 4294967296 - ((z'.toNat : Int)).toNat < 4294967296 - ((y.toNat : Int)).toNat; simp only [Int.toNat_natCast]; omega
    · have H2 := hid (H.out.trans (show keptS fs ps y = y by unfold keptS; rw [followS_none hf]))
      have hd : decide ((-1 : Int) < 0) = true := by decide
      clear hf
      go_wp2_with fail
      go_ret
      exact ⟨ret_set H2.out.symm, B1.out⟩

set_option maxHeartbeats 800000 in
theorem refPTrace_any (fs : List F) (ps : List S) (z : S) (v u : Value) (w : World) (hv : RdF w v fs) (hu : RdE enc w u ps) :
    Calls Tryd.prog 28 #[v, u, enc z] w fun e w' => ∃ v', e = .returned v' ∧ RdE encI w' v' (followS fs ps z).2 ∧ Below w.heap.size w w' := by
  have C := hid (fun (x : S) (W : World) (h : Below w.heap.size w W) => first_any fs ps x v u W (hv.below h) (hu.below h))
  obtain ⟨ao, cap, rfl, -⟩ := hv.split
  obtain ⟨bo, bcap, rfl, -⟩ := hu.split
  clear hv hu
  simp only [enc_eq] at C ⊢
  go_enter Tryd.func28, Tryd.ntmps28
  go_wp2_with fail
  go_loopw [2, 7] (fun x o wr => ∃ (y : S) (l : List Nat), x = .int .u32 (iv y) ∧ wr.ownsRow w.heap.size 3 1 o l.length (l.map encI) ∧ l.length ≤ y.toNat ∧ Hid ((followS fs ps z).2 = l ++ (followS fs ps y).2) ∧ Below w.heap.size w wr) (fun x _ _ => 4294967296 - (intOf x).toNat)
  case atStart => exact ⟨z, [], rfl, World.ownsRow_nil _ _ _ _, Nat.zero_le _, hid rfl, Below.refl _ _⟩
  case round =>
    obtain ⟨y, l, rfl, hown, hll, H, hnx⟩ := hrel
    have C1 := hid (C.out y wr hnx)
    have HN := hid hnx
    have HO := hid hown
    have hyl := y.isLt
    clear hnx hown
    go_wp2_with fail
    refine C1.out.mono ?_
    rintro e w1 ⟨he, hb1⟩
    have B1 := hid (HN.out.trans (hb1.mono HN.out.size))
    have O1 := own_below HO.out hb1
    have hs1 := B1.out.size
    clear hb1 C1
    rcases he with ⟨k, p, hf, hp, rfl⟩ | ⟨hf, rfl⟩
    · have H2 := hid (H.out.trans (show l ++ (followS fs ps y).2 = (l ++ [k]) ++ (followS fs ps (y ||| moreS fs p y)).2 by rw [followS_some hf hp]; simp))
      have hg : y.toNat < (y ||| moreS fs p y).toNat := by
        obtain ⟨_, he, _⟩ := List.findIdx?_eq_some_iff_getElem.1 hf
        obtain ⟨_, rfl⟩ := List.getElem?_eq_some_iff.1 hp
        exact adds_grows he
      have hd : decide ((k : Int) < 0) = false := by simp
      clear hf hp
      generalize y ||| moreS fs p y = z' at *
      have hzl := z'.isLt
      go_wp2_with (at_builtin; refine wpList_push rfl _ _ 57 rfl w.heap.size 3 (.int .i64 0) 8 undInts infoInt rfl (by decide) encI (fun _ => rfl) _ l rfl (O1.alloc _) ⟨w1.heap.size, 0, none⟩ k rfl cell_new (by omega) (by simp; omega) ?_)
      intro v' w2 hown' hgrow
      have hb2 := hid (below_push B1.out hs1 O1 hgrow)
      clear hgrow O1
      go_wp2_with fail
      go_roundw
      case rel => exact ⟨z', l ++ [k], rfl, by simpa using hown', by rw [List.length_append, List.length_singleton]; omega, H2, hb2.out⟩
      case measure => show 4294967296 - ((z'.toNat : Int)).toNat < 4294967296 - ((y.toNat : Int)).toNat; simp only [Int.toNat_natCast]; omega
    · have H2 := hid (H.out.trans (show l ++ (followS fs ps y).2 = l by rw [followS_none hf]; simp))
      have hd : decide ((-1 : Int) < 0) = true := by decide
      have R1 := hid (RdE.of_owns O1 (by omega))
      clear hf O1
      go_wp2_with fail
      go_ret
      exact ⟨_, rfl, by rw [H2.out]; exact R1.out, B1.out⟩

theorem refPreserves_any (fs : List F) (ps : List S) (f : F) (v u : Value) (w : World) (hv : RdF w v fs) (hu : RdE enc w u ps) :
    Calls Tryd.prog 25 #[v, u, .agg #[enc f.1, enc f.2]] w fun e w' => e = .returned (.bool (presB fs ps f)) ∧ Below w.heap.size w w' := by
  have hb := below_alloc w (.cells #[enc f.1, enc f.2] 34)
  have C := hid (fun i : After (w.alloc (.cells #[enc f.1, enc f.2] 34)) => Calls.after i (refKept_any fs ps f.1 v u i.world ((hv.below hb).below i.below) ((hu.below hb).below i.below)))
  have C2 := hid (fun i : After (w.alloc (.cells #[enc f.1, enc f.2] 34)) => Calls.after_same i (sub_any f.2 (keptS fs ps f.1) i.world))
  obtain ⟨ao, cap, rfl, -⟩ := hv.split
  obtain ⟨bo, bcap, rfl, -⟩ := hu.split
  have e : presB fs ps f = decide (sub f.2 (keptS fs ps f.1)) := rfl
  rw [e]
  have B := hid hb
  clear e hb hv hu
  generalize decide (sub f.2 (keptS fs ps f.1)) = r at *
  generalize keptS fs ps f.1 = c at *
  have e0 : ∀ i : After (w.alloc (.cells #[enc f.1, enc f.2] 34)), i.world.cell? ⟨w.heap.size, 0, none⟩ = some (.int .u32 (iv f.1)) := fun i => After.cell (by simp [enc]) i
  have e1 : ∀ i : After (w.alloc (.cells #[enc f.1, enc f.2] 34)), i.world.cell? ⟨w.heap.size, 1, none⟩ = some (.int .u32 (iv f.2)) := fun i => After.cell (by simp [enc]) i
  unfold enc at *
  go_enter Tryd.func25, Tryd.ntmps25
  go_wp2_with fail
  refine wp_region_after (by kernel_rfl) (by kernel_rfl) ?_
  repeat (any_goals (quiet_step (first | exact C.out _ | exact C2.out _)))
  refine wpQuiet_nil ?_
  intro wq hq
  have BQ := hid (B.out.trans (hq.mono B.out.size))
  clear hq
  go_wp2_with fail
  go_ret
  exact ⟨rfl, BQ.out⟩

set_option maxHeartbeats 800000 in
set_option maxRecDepth 100000 in
theorem refLost_any (fs : List F) (ps : List S) (v u : Value) (w : World) (hv : RdF w v fs) (hu : RdE enc w u ps) (hl : fs.length < 1099511627776) :
    Calls Tryd.prog 29 #[v, u] w fun e w' => ∃ v', e = .returned v' ∧ RdE encI w' v' (lostI fs ps) ∧ Below w.heap.size w w' := by
  have C := hid (fun (f : F) (W : World) (h : Below w.heap.size w W) => refPreserves_any fs ps f v u W (hv.below h) (hu.below h))
  obtain ⟨ao, cap, rfl, -, hc⟩ := hv.split
  obtain ⟨bo, bcap, rfl, -⟩ := hu.split
  have FC := hid hc
  clear hv hu hc
  simp only [enc_eq] at C
  go_enter Tryd.func29, Tryd.ntmps29
  go_wp2_with fail
  go_loopw [5, 6] (fun o i wr => ∃ k : Nat, k ≤ fs.length ∧ i = .int .i64 k ∧ wr.ownsRow w.heap.size 3 1 o (((List.range fs.length).take k).filter (lostB fs ps)).length ((((List.range fs.length).take k).filter (lostB fs ps)).map encI) ∧ Below w.heap.size w wr) (fun _ i _ => fs.length - (intOf i).toNat)
  case atStart => exact ⟨0, Nat.zero_le _, rfl, World.ownsRow_nil _ _ _ _, Below.refl _ _⟩
  case round =>
    obtain ⟨k, hk, rfl, hown, hnx⟩ := hrel
    have hsz := hnx.size
    have hfl : (((List.range fs.length).take k).filter (lostB fs ps)).length ≤ k := Nat.le_trans (List.length_filter_le _ _) (by simp; omega)
    by_cases hlt : k < fs.length
    · obtain ⟨f, hf⟩ := get_some hlt
      obtain ⟨b, off, rfl, hfc⟩ := FC.out k f hf
      obtain ⟨e0, e1⟩ := hfc wr hnx
      have FN := hid (filter_next (range_next hlt) (lostB fs ps))
      have LB := hid (lostB_at (ps := ps) hf)
      have C1 := hid (C.out f wr hnx)
      have O1 := hid hown
      have N1 := hid hnx
      have k0 : (0 : Int) ≤ (k : Int) := by omega
      clear hfc hf hown hnx
      generalize ((List.range fs.length).take k).filter (lostB fs ps) = zs at *
      cases hq : presB fs ps f with
      | false =>
        rw [hq] at C1
        have FN2 := hid (FN.out.trans (by rw [if_pos (by rw [LB.out, hq]; rfl)]))
        clear FN hq LB
        go_wp2_with fail
        refine C1.out.mono ?_
        rintro e w3 ⟨rfl, hb3⟩
        have hown3 := own_below O1.out hb3
        have hnx3 := N1.out.trans (hb3.mono N1.out.size)
        have hsz3 := hnx3.size
        clear hb3 O1 N1 e0 e1
        go_wp2_with (at_builtin; refine wpList_push rfl _ _ 57 rfl w.heap.size 3 (.int .i64 0) 8 undInts infoInt rfl (by decide) encI (fun _ => rfl) _ zs rfl (hown3.alloc _) ⟨w3.heap.size, 0, none⟩ k rfl cell_new (by omega) (by simp; omega) ?_)
        intro v' w4 hown' hgrow
        have hb4 := below_push hnx3 hsz3 hown3 hgrow
        clear hgrow hown3 hnx3
        go_wp2_with fail
        go_roundw
        case rel => exact ⟨k + 1, by omega, by go_num, by rw [FN2.out]; simpa using hown', hb4⟩
        case measure => simp [intOf]; omega
      | true =>
        rw [hq] at C1
        have FN2 := hid (FN.out.trans (by rw [if_neg (by rw [LB.out, hq]; simp), List.append_nil]))
        clear FN hq LB
        go_wp2_with fail
        refine C1.out.mono ?_
        rintro e w3 ⟨rfl, hb3⟩
        have hown3 := own_below O1.out hb3
        have hnx3 := N1.out.trans (hb3.mono N1.out.size)
        clear hb3 O1 N1 e0 e1
        go_wp2_with fail
        go_roundw
        case rel => exact ⟨k + 1, by omega, by go_num, by rw [FN2.out]; exact hown3, hnx3⟩
        case measure => simp [intOf]; omega
    · rw [List.take_of_length_le (by simp; omega)] at hown
      have R := hid (RdE.of_owns hown (by have := lostI_length fs ps; unfold lostI at this; omega))
      go_wp2_with fail
      go_ret
      exact ⟨_, rfl, R.out, hnx⟩

end Go.Proofs.YtciamnkalmihcaaDoor
