/- The laws of chapter 22 over described lists, over the contracts of what they call. -/
import Derived.Test.YtciamnkalmihcaaDoorLaws22
namespace Go.Proofs.YtciamnkalmihcaaDoor
open Go.RowKit

attribute [local irreducible] Go.wpQuiet

theorem close_sub_full {fs : List F} {k : Nat} (hw : W2 (fullN k) fs) {z : S} (hz : sub z (fullN k)) : sub (closeS fs z) (fullN k) := w2_close hw hz
theorem full_k {k : Nat} (h : k ≤ 32) : min ((k : Nat) : Int).toNat 32 = k := by omega
theorem lost_whole {fs : List F} {ps : List S} {A : S} (hw : W2 A fs) (hA : A ∈ ps) : lostI fs ps = [] := by
  unfold lostI
  rw [List.filter_eq_nil_iff]
  intro i hi
  have hi := List.mem_range.1 hi
  obtain ⟨f, hf⟩ := get_some hi
  rw [lostB_at hf]
  have hm := List.mem_of_getElem? hf
  have : presB fs ps f = true := by
    unfold presB
    rw [decide_eq_true_iff, kept_whole hw hA (hw f hm).1]
    exact (closeS_cl fs f.1).2.1 f hm (closeS_cl fs f.1).1
  rw [this]; simp
theorem RdE.take' {α : Type} {f : α → Value} {w : World} {ao : Option Addr} {n cap k : Nat} {xs : List α} (h : RdE f w (.slice ao n cap) xs) (hk : k ≤ xs.length) : RdE f w (.slice ao k cap) (xs.take k) := by
  obtain ⟨ao', cap', he, h1, h2, h3⟩ := h
  cases he
  refine ⟨_, _, by rw [List.length_take, Nat.min_eq_left hk], by rw [List.length_take]; omega, by rw [List.length_take]; omega, fun hp => ?_⟩
  rw [List.length_take] at hp
  obtain ⟨b, off, e, hb, hc⟩ := h3 (by omega)
  refine ⟨b, off, e, hb, fun i x hi => hc i x ?_⟩
  have hik : i < k := by
    have := (List.getElem?_eq_some_iff.1 hi).1
    rw [List.length_take] at this; omega
  rwa [List.getElem?_take_of_lt hik] at hi

set_option maxHeartbeats 1600000 in
set_option maxRecDepth 100000 in
theorem pUnionL (n : U8) (u : Value) (v : Value) (i : U8) (w : World) (hT : Tab w) (h : ArgC cD w u) (hs : SizeLe u 1048576) (k : ArgL enc8 w v) (ks : SizeLe v 1048576) :
    Calls Tryd.prog 7 #[.agg #[enc8 n, u], v, .int .u8 (i.toNat : Int)] w fun e w' => e = .returned (.bool true) ∧ Below w.heap.size w w' := by
  have AW := hid (fun (W : World) (hb : Below w.heap.size w W) => awake22_any W (hT.below hb))
  obtain ⟨ao, len, cap, rfl, h⟩ := h
  have hlen := hs _ _ _ rfl
  obtain ⟨ds, hdl, hr⟩ := h (by omega)
  obtain ⟨bo, len2, bcap, rfl, k⟩ := k
  have hlen2 := ks _ _ _ rfl
  obtain ⟨bs, hbl, hk⟩ := k (by omega)
  clear hs h ks k
  obtain ⟨w0, hw0⟩ : ∃ w0 : World, w.alloc (.cells #[enc8 n, .slice ao len cap] 38) = w0 := ⟨_, rfl⟩
  have hb0 : Below w.heap.size w w0 := by rw [← hw0]; exact below_alloc _ _
  have B0 := hid hb0
  have OF := hid (of_any n _ ds w0 (hr.below hb0) (by omega))
  have W0 := hid hw0
  have hfl := listF_length (fullN (n.toNat % 7)) ds
  have hpl := partsS_length (fullN (n.toNat % 7)) bs
  have hx : (i.toNat : Int) < 256 := by have := i.isLt; omega
  have hx0 : (0 : Int) ≤ (i.toNat : Int) := by omega
  have hk6 : n.toNat % 7 ≤ 6 := by omega
  have PA := hid (fun (W : World) (hb : Below w.heap.size w W) => parts_any ((n.toNat % 7 : Nat) : Int) bs _ W (hk.below hb) (by omega))
  have FU := hid (fun (W : World) => full_any ((n.toNat % 7 : Nat) : Int) W)
  rw [full_k (by omega)] at PA FU
  have hw2 := w2_list (fullN (n.toNat % 7)) ds
  have hps := fun p (hp : p ∈ partsS (fullN (n.toNat % 7)) bs) => partsS_sub hp
  clear hr hw0 hb0 hk
  generalize n.toNat % 7 = k at *
  generalize listF (fullN k) ds = fs at *
  generalize partsS (fullN k) bs = ps at *
  have hfb : fs.length ≤ 1048576 := by omega
  have hpb : ps.length ≤ 1048576 := by omega
  have hf6 : ds.length ≤ 6 → fs.length ≤ 6 := by omega
  have hp4 : bs.length ≤ 4 → ps.length ≤ 4 := by omega
  clear hfl hpl
  by_cases hok : ds.length ≤ 6 ∧ bs.length ≤ 4
  · obtain ⟨hl, hl2⟩ := hok
    rw [decide_eq_true hl] at OF
    rw [decide_eq_true hl2] at PA
    have hp4 := hp4 hl2
    have hpe : ∀ p ∈ ps, projE fs p = 0 := fun p hp => projE_zero hk6 (by have := hf6 hl; omega) hw2 (hps p hp)
    have PR := hid (fun (p : S) (hp : p ∈ ps) (x : Value) (W : World) (hb : Below w.heap.size w W) (hx : RdF W x fs) => show Calls Tryd.prog 12 #[x, enc p] W fun e w' => ∃ v', e = .returned (.tuple #[v', .int .i64 0]) ∧ RdF w' v' (projR fs p) ∧ Below W.heap.size W w' by
      have := projectRR fs p x W (hT.below hb) hx
      rwa [hpe p hp] at this)
    have UN := hid (fun z => kept_union hpe z)
    have PL := hid (fun p => projR_length fs p)
    have KE := hid (fun (z : S) (x y : Value) (W : World) (hx : RdF W x fs) (hy : RdE enc W y ps) => kept_any fs ps z x y W hx hy)
    have CL := hid (fun (l : List F) (z : S) (x : Value) (W : World) (hx : RdF W x l) => refClose_any l z x W hx)
    clear hw2 hps hpe hl hT
    generalize fullN k = A at *
    unfold enc8 at *
    simp only [enc_eq] at FU PR KE CL
    go_enter Tryd.func7, Tryd.ntmps7
    go_wp2_with fail
    rw [W0.out]
    refine OF.out.mono ?_
    rintro e w1 ⟨v1, rfl, ho1, hb1⟩
    have B1 := hid (B0.out.trans (hb1.mono B0.out.size))
    have R1 := hid (show RdF w1 v1 fs from RdC.of_owns cF_length ho1 (by omega))
    clear hb1 ho1 OF
    go_wp2_with fail
    refine (PA.out _ B1.out).mono ?_
    rintro e w2 ⟨v2, rfl, hr2, hb2⟩
    have B2 := hid (B1.out.trans (hb2.mono B1.out.size))
    replace R1 := hid (R1.out.below hb2)
    have R2 := hid hr2
    clear hr2
    clear hb2
    go_wp2_with fail
    refine (AW.out _ B2.out).mono ?_
    rintro e w3 ⟨rfl, hb3⟩
    have B3 := hid (B2.out.trans (hb3.mono B2.out.size))
    replace R1 := hid (R1.out.below hb3)
    replace R2 := hid (R2.out.below hb3)
    clear hb3
    obtain ⟨po, pcap, rfl, -, hpc⟩ := R2.out.split
    obtain ⟨fo, fcap, rfl⟩ := RdC.form R1.out
    have PC := hid hpc
    clear hpc
    go_wp2_with fail
    go_loopw [12, 43] (fun o i wr => ∃ j : Nat, j ≤ ps.length ∧ i = .int .i64 j ∧ wr.ownsRow w3.heap.size 34 2 o ((ps.take j).flatMap (projR fs)).length (((ps.take j).flatMap (projR fs)).flatMap cF) ∧ ((ps.take j).flatMap (projR fs)).length ≤ 137438953472 * j ∧ Below w3.heap.size w3 wr) (fun _ i _ => ps.length - (intOf i).toNat)
    case atStart => exact ⟨0, Nat.zero_le _, rfl, World.ownsRow_nil _ _ _ _, by simp, Below.refl _ _⟩
    case round =>
      obtain ⟨j, hj, rfl, hown, hll, hnx⟩ := hrel
      have hsz := hnx.size
      by_cases hlt : j < ps.length
      · obtain ⟨p, hp⟩ := get_some hlt
        obtain ⟨b, off, rfl, hpd⟩ := PC.out j p hp
        have e0 : wr.cell? ⟨b, off + j, none⟩ = some (.int .u32 (iv p)) := hpd wr hnx
        have BW := hid (B3.out.trans (hnx.mono B3.out.size))
        have P1 := hid (PR.out p (List.mem_of_getElem? hp) _ wr BW.out (R1.out.below hnx))
        have N := hid (show (ps.take (j + 1)).flatMap (projR fs) = (ps.take j).flatMap (projR fs) ++ projR fs p by rw [take_next hp, List.flatMap_append]; simp)
        have PLp := PL.out p
        have HO := hid hown
        have HN := hid hnx
        clear hpd hp hown hnx
        generalize (ps.take j).flatMap (projR fs) = all at *
        generalize projR fs p = pr at *
        go_wp2_with fail
        refine P1.out.mono ?_
        rintro e w4 ⟨v4, rfl, hr4, hb4⟩
        have hown4 := own_below HO.out hb4
        have hnx4 := HN.out.trans (hb4.mono HN.out.size)
        have hs4 := hnx4.size
        clear hb4 e0 HO HN
        obtain ⟨xo4, xcap4, rfl⟩ := RdC.form hr4
        go_wp2_with (at_builtin; refine wpList_appC rfl _ _ 27 rfl w3.heap.size 34 (.agg #[.int .u32 0, .int .u32 0]) 8 undFDs infoFD rfl (by decide) (by decide) cF_length cF_one _ all rfl hown4 _ pr rfl hr4 (by omega) hs4 ?_)
        intro v' w5 ho5 hgrow
        have hb5 := hnx4.grown hgrow hs4 (fun j hj => (hown4.lt j hj).1)
        clear hgrow hown4 hnx4
        go_wp2_with fail
        go_roundw
        case rel => exact ⟨j + 1, by omega, by go_num, by rw [N.out]; simpa using ho5, by rw [N.out, List.length_append]; omega, hb5⟩
        case measure => simp [intOf]; omega
      · rw [take_all hlt] at hown hll
        have UN1 := hid (UN.out (wd i &&& A))
        have RA := hid (show RdF wr u12 (ps.flatMap (projR fs)) from RdC.of_owns cF_length hown (by omega))
        have BW := hid (B3.out.trans (hnx.mono B3.out.size))
        have RF := hid (R1.out.below hnx)
        have RP := hid (R2.out.below hnx)
        clear hown hnx
        generalize ps.flatMap (projR fs) = all at *
        go_wp2_with fail
        refine (FU.out _).mono ?_
        rintro e w4 ⟨rfl, rfl⟩
        go_wp2_with fail
        refine (KE.out _ _ _ _ RF.out RP.out).mono ?_
        rintro e w5 ⟨rfl, hb5⟩
        have B5 := hid (BW.out.trans (hb5.mono BW.out.size))
        have RA5 := hid (RA.out.below hb5)
        clear hb5
        rw [UN1.out]
        go_wp2_with fail
        refine (CL.out _ _ _ _ RA5.out).mono ?_
        rintro e w6 ⟨rfl, hb6⟩
        have B6 := hid (B5.out.trans (hb6.mono B5.out.size))
        clear hb6
        go_wp2_with fail
        go_ret
        exact ⟨ret_bool (by simp), B6.out⟩
  · unfold enc8 at *
    rcases (show ¬ ds.length ≤ 6 ∨ (ds.length ≤ 6 ∧ ¬ bs.length ≤ 4) by omega) with hl | ⟨hl, hl2⟩
    · rw [decide_eq_false hl] at OF
      generalize decide (bs.length ≤ 4) = q at *
      generalize fullN k = A at *
      go_enter Tryd.func7, Tryd.ntmps7
      go_wp2_with fail
      rw [W0.out]
      refine OF.out.mono ?_
      rintro e w1 ⟨v1, rfl, ho1, hb1⟩
      have B1 := hid (B0.out.trans (hb1.mono B0.out.size))
      clear hb1 ho1 OF
      go_wp2_with fail
      refine (PA.out _ B1.out).mono ?_
      rintro e w2 ⟨v2, rfl, hr2, hb2⟩
      have B2 := hid (B1.out.trans (hb2.mono B1.out.size))
      clear hb2
      clear hr2
      go_wp2_with fail
      refine (AW.out _ B2.out).mono ?_
      rintro e w3 ⟨rfl, hb3⟩
      have B3 := hid (B2.out.trans (hb3.mono B2.out.size))
      clear hb3
      go_wp2_with fail
      refine (AW.out _ B3.out).mono ?_
      rintro e w4 ⟨rfl, hb4⟩
      have B4 := hid (B3.out.trans (hb4.mono B3.out.size))
      clear hb4
      go_wp2_with fail
      go_ret
      exact ⟨rfl, B4.out⟩
    · rw [decide_eq_true hl] at OF
      rw [decide_eq_false hl2] at PA
      generalize fullN k = A at *
      go_enter Tryd.func7, Tryd.ntmps7
      go_wp2_with fail
      rw [W0.out]
      refine OF.out.mono ?_
      rintro e w1 ⟨v1, rfl, ho1, hb1⟩
      have B1 := hid (B0.out.trans (hb1.mono B0.out.size))
      clear hb1 ho1 OF
      go_wp2_with fail
      refine (PA.out _ B1.out).mono ?_
      rintro e w2 ⟨v2, rfl, hr2, hb2⟩
      have B2 := hid (B1.out.trans (hb2.mono B1.out.size))
      clear hb2
      clear hr2
      go_wp2_with fail
      refine (AW.out _ B2.out).mono ?_
      rintro e w3 ⟨rfl, hb3⟩
      have B3 := hid (B2.out.trans (hb3.mono B2.out.size))
      clear hb3
      go_wp2_with fail
      refine (AW.out _ B3.out).mono ?_
      rintro e w4 ⟨rfl, hb4⟩
      have B4 := hid (B3.out.trans (hb4.mono B3.out.size))
      clear hb4
      go_wp2_with fail
      go_ret
      exact ⟨rfl, B4.out⟩

end Go.Proofs.YtciamnkalmihcaaDoor
