/- The walk of preserve's Project. -/
import Derived.Test.YtciamnkalmihcaaDoorPresM
import Derived.Test.YtciamnkalmihcaaDoorPres2
import Derived.Test.YtciamnkalmihcaaDoorMerge
import Derived.Test.YtciamnkalmihcaaDoorGMid
import Derived.Test.YtciamnkalmihcaaDoorListD
namespace Go.Proofs.YtciamnkalmihcaaDoor
open Go.RowKit

theorem projE_parts {fs : List F} {s : S} (h : projE fs s = 0) : validF 16 fs = 0 ∧ (s >>> 16 != 0#32) = false ∧ ¬ 8 < pop s := by
  unfold projE at h
  split at h
  · exact absurd h (by assumption)
  · rename_i h1
    split at h
    · simp at h
    · rename_i h2
      split at h
      · simp at h
      · exact ⟨by simpa using h1, by simpa using h2, by assumption⟩
def unitF (x : S) (a : Nat) : F := (x, bit a)
theorem wL_next {fs : List F} {s x : S} {ys : List S} {k : Nat} (h : ys[k]? = some x) : wL fs s (ys.take (k + 1)) = wL fs s (ys.take k) ++ wX fs s x := by
  unfold wL; rw [take_next h, List.flatMap_append]; simp
theorem wX_length (fs : List F) (s x : S) : (wX fs s x).length ≤ 32 := by
  unfold wX; rw [List.length_map]
  exact Nat.le_trans (List.length_filter_le _ _) (memN_length _ _)
theorem wL_length (fs : List F) (s : S) (ys : List S) : (wL fs s ys).length ≤ 32 * ys.length := by
  induction ys with
  | nil => simp [wL]
  | cons x ys ih =>
    have h1 := wX_length fs s x
    have h2 : wL fs s (x :: ys) = wX fs s x ++ wL fs s ys := by unfold wL; rw [List.flatMap_cons]
    rw [h2, List.length_append, List.length_cons]; omega
theorem mapf_next {ms : List Nat} {j a : Nat} (p : Nat → Bool) (x : S) (h : ms[j]? = some a) : ((ms.take (j + 1)).filter p).map (unitF x) = ((ms.take j).filter p).map (unitF x) ++ (if p a then [unitF x a] else []) := by
  rw [filter_next h, List.map_append]; split <;> rfl

set_option maxHeartbeats 3200000 in
set_option maxRecDepth 100000 in
theorem project_ok (fs : List F) (s : S) (v : Value) (w : World) (hT : Tab w) (hv : RdF w v fs) (hE : projE fs s = 0) :
    Calls Tryd.prog 12 #[v, enc s] w fun e w' => ∃ v', e = .returned (.tuple #[v', .int .i64 0]) ∧ w'.ownsRow w.heap.size 34 2 v' (projS fs s (subsS s)).length ((projS fs s (subsS s)).flatMap cF) ∧ Below w.heap.size w w' := by
  have V := hid (validF_any 16 fs v w hv)
  have SZ := hid (fun (W : World) => asize_any s W)
  have SU := hid (fun (W : World) => asubsets_any s W)
  have CL := hid (fun (x : S) (W : World) (h : Below w.heap.size w W) => close_any fs x v W (hv.below h))
  have ME := hid (fun (x : S) (W : World) (h : Below w.heap.size w W) => amembers_any x W (hT.below h))
  have MI := hid (fun (x : S) (a : Nat) (ha : a < 32) (W : World) (h : Below w.heap.size w W) => minimalP_any fs x a ha v W (hT.below h) (hv.below h))
  have IM := hid (fun (l : List F) (f : F) (u : Value) (W : World) (h : RdF W u l) => implies_any l f u W h)
  have MG := hid (fun (l : List F) (u : Value) (W : World) (h : RdF W u l) (hh : l.length < 1099511627776) => merge_any l u W h hh)
  obtain ⟨hz1, hz2, hz3⟩ := projE_parts hE
  rw [hz1] at V
  have hd8 : decide ((pop s : Int) > 8) = false := by simp; omega
  obtain ⟨ao, cap, rfl, -⟩ := hv.split
  obtain ⟨ys, hys⟩ : ∃ ys, subsS s = ys := ⟨_, rfl⟩
  obtain ⟨ds, hds⟩ : ∃ ds, dropS (wL fs s ys) 0 = ds := ⟨_, rfl⟩
  rw [show projS fs s (subsS s) = mergeF ds by rw [hys, ← hds]; rfl]
  have WL := hid (wL_length fs s ys)
  have DS := hid hds
  have HYS := hid hys
  clear hv hT hE hz1 hz3 hds hys
  generalize pop s = p at SZ hd8
  simp only [enc_eq] at SZ SU CL ME MI ⊢
  go_enter Tryd.func12, Tryd.ntmps12
  go_wp2_with fail
  refine V.out.mono ?_
  rintro e w1 ⟨rfl, hb1⟩
  have B1 := hid hb1
  clear hb1 V
  go_wp2_with fail
  refine (SZ.out _).mono ?_
  rintro e w1' ⟨rfl, q, rfl⟩
  have B1' := hid (below_drewN' B1.out q)
  obtain ⟨wq, hwq⟩ : ∃ wq : World, w1.drewN q = wq := ⟨_, rfl⟩
  rw [hwq] at B1' ⊢
  clear hwq
  go_wp2_with fail
  refine (SU.out _).mono ?_
  rintro e w2 ⟨v2, ys', rfl, ho2, hP, hyl, hb2⟩
  obtain rfl : ys = ys' := ((subsS_of hP).trans HYS.out).symm
  have B2 := hid (B1'.out.trans (hb2.mono B1'.out.size))
  have R2 := hid (RdE.of_owns ho2 (by omega))
  obtain ⟨yo, ycap, rfl, -, hyc⟩ := R2.out.split
  have YC := hid hyc
  clear ho2 hb2 hyc hP SU SZ B1 B1'
  have hs2 := B2.out.size
  go_wp2_with fail
  go_loopw [7, 30] (fun o i wr => ∃ k : Nat, k ≤ ys.length ∧ i = .int .i64 k ∧ wr.ownsRow w2.heap.size 34 2 o (wL fs s (ys.take k)).length ((wL fs s (ys.take k)).flatMap cF) ∧ Below w2.heap.size w2 wr) (fun _ i _ => ys.length - (intOf i).toNat)
  case atStart => exact ⟨0, Nat.zero_le _, rfl, World.ownsRow_nil _ _ _ _, Below.refl _ _⟩
  case round =>
    obtain ⟨k, hk, rfl, hown, hnx⟩ := hrel
    obtain ⟨wo, rfl⟩ : ∃ wo : World, wo = wr := ⟨_, rfl⟩
    have hsz := hnx.size
    have hol : (wL fs s (ys.take k)).length ≤ 32 * k := Nat.le_trans (wL_length _ _ _) (by simp; omega)
    by_cases hlt : k < ys.length
    · obtain ⟨x, hx⟩ := get_some hlt
      obtain ⟨b, off, rfl, hyx⟩ := YC.out k x hx
      have e0 : wo.cell? ⟨b, off + k, none⟩ = some (.int .u32 (iv x)) := hyx wo hnx
      have N := hid (wL_next (fs := fs) (s := s) hx)
      have NX := hid (show wX fs s x = ((memN (closeS fs x &&& s &&& ~~~ x) 32).filter (minB fs x)).map (unitF x) from rfl)
      have BW := hid (B2.out.trans (hnx.mono hs2))
      have C1 := hid (CL.out x wo BW.out)
      have MI1 := hid (MI.out x)
      clear hyx hx
      generalize wL fs s (ys.take k) = out at *
      generalize closeS fs x = c at *
      have HO := hid hown
      have HN := hid hnx
      clear hown hnx
      go_wp2_with fail
      refine C1.out.mono ?_
      rintro e w3 ⟨rfl, hb3⟩
      have O3 := hid (own_below HO.out hb3)
      have N3 := hid (HN.out.trans (hb3.mono HN.out.size))
      have BW3 := hid (BW.out.trans (hb3.mono BW.out.size))
      have M := hid (ME.out (c &&& s &&& ~~~ x) w3 BW3.out)
      clear hb3 HO HN e0 C1 BW
      go_wp2_with fail
      refine M.out.mono ?_
      rintro e w4 ⟨v4, rfl, ho4, hb4⟩
      have hmo := own_below O3.out hb4
      have HBM := hid (N3.out.trans (hb4.mono N3.out.size))
      have BW4 := hid (BW3.out.trans (hb4.mono BW3.out.size))
      have hne : ∀ g, u7.ownBlock = some g → g < w3.heap.size := fun g hg => (O3.out.lt g hg).2
      have hml : ∀ a ∈ memN (c &&& s &&& ~~~ x) 32, a < 32 := fun a ha => (mem_memN.1 ha).1
      have hmn := memN_length (c &&& s &&& ~~~ x) 32
      have HML := hid hml
      generalize memN (c &&& s &&& ~~~ x) 32 = ms at *
      have HMS := hid (fun (W : World) (x : Value) (h : Grow1 w4 u7 W x) => RdE.of_owns (h.far ho4 (fun g h1 h2 => by have := hne g h1; have := (ho4.lt g h2).1; omega)) (by omega))
      have HGB := hid (fun (W : World) (x : Value) (h : Grow1 w4 u7 W x) => BW4.out.grown h.grown BW4.out.size (fun j hj => by have := (O3.out.lt j hj).1; omega))
      obtain ⟨mo, mcap, rfl, -, -⟩ := (RdE.of_owns ho4 (by omega)).split
      have HO := hid hmo
      clear hmo hb4 ho4 hne hml M O3 N3
      have hs4 := HBM.out.size
      generalize minB fs x = mb at *
      go_wp2_with fail
      go_loopw [7, 43] (fun o i wr => ∃ j : Nat, j ≤ ms.length ∧ i = .int .i64 j ∧ wr.ownsRow w2.heap.size 34 2 o (out ++ ((ms.take j).filter mb).map (unitF x)).length ((out ++ ((ms.take j).filter mb).map (unitF x)).flatMap cF) ∧ Grow1 w4 u7 wr o) (fun _ i _ => ms.length - (intOf i).toNat)
      case atStart => exact ⟨0, Nat.zero_le _, rfl, by simpa using HO.out, Grow1.refl _ _⟩
      case round =>
        obtain ⟨j, hj, rfl, hown, hG⟩ := hrel
        have hsr := hG.size
        have hll : (out ++ ((ms.take j).filter mb).map (unitF x)).length ≤ out.length + j := by
          rw [List.length_append, List.length_map]
          have := List.length_filter_le mb (ms.take j)
          simp at this ⊢
          omega
        by_cases hjl : j < ms.length
        · obtain ⟨a, ha⟩ := get_some hjl
          have ha32 := HML.out a (List.mem_of_getElem? ha)
          obtain ⟨mo', mcap', he, -, hmc⟩ := (HMS.out _ _ hG).split
          cases he
          obtain ⟨g, goff, rfl, hmd⟩ := hmc j a ha
          have hem : wr.cell? ⟨g, goff + j, none⟩ = some (.int .i64 (a : Int)) := hmd wr (Below.refl _ _)
          have T := hid (mapf_next mb x ha)
          have a0 : (0 : Int) ≤ (a : Int) := by omega
          have M1 := hid (MI1.out a ha32 wr (HGB.out _ _ hG))
          have HO3 := hid hown
          have HG3 := hid hG
          clear hmc hmd ha hown hG
          cases hq : mb a with
          | true =>
            have T2 := hid (show out ++ ((ms.take (j + 1)).filter mb).map (unitF x) = (out ++ ((ms.take j).filter mb).map (unitF x)) ++ [unitF x a] by rw [T.out, hq, List.append_assoc]; rfl)
            rw [hq] at M1
            clear hq T
            generalize out ++ ((ms.take j).filter mb).map (unitF x) = zs at *
            go_wp2_with fail
            refine M1.out.mono ?_
            rintro e w5 ⟨rfl, hb5⟩
            have hown5 := own_below HO3.out hb5
            have hG5 := HG3.out.below hb5
            have hs5 := hG5.size
            clear hb5 HO3 HG3 hem
            go_wp2_with (at_builtin; refine wpList_pushCo rfl _ _ 27 rfl w2.heap.size 34 (.agg #[.int .u32 0, .int .u32 0]) 2 8 undFDs infoFD rfl (by decide) (by decide) cF cF_length cF_one _ zs rfl (hown5.alloc _) ⟨w5.heap.size, 0, none⟩ (unitF x a) rfl (cells_newF _ (unitF x a)) (by omega) (by simp; omega) ?_)
            intro v' w6 hown' hgrow hob
            have hG6 := (hG5.alloc _).push hgrow (by simpa using hob)
            clear hgrow hown5 hG5 hob
            go_wp2_with fail
            go_roundw
            case rel => exact ⟨j + 1, by omega, by go_num, by rw [T2.out]; simpa using hown', hG6⟩
            case measure => simp [intOf]; omega
          | false =>
            have T2 := hid (show out ++ ((ms.take (j + 1)).filter mb).map (unitF x) = out ++ ((ms.take j).filter mb).map (unitF x) by rw [T.out, hq]; simp)
            rw [hq] at M1
            clear hq T
            go_wp2_with fail
            refine M1.out.mono ?_
            rintro e w5 ⟨rfl, hb5⟩
            have hown5 := own_below HO3.out hb5
            have hG5 := HG3.out.below hb5
            clear hb5 HO3 HG3 hem
            go_wp2_with fail
            go_roundw
            case rel => exact ⟨j + 1, by omega, by go_num, by rw [T2.out]; exact hown5, hG5⟩
            case measure => simp [intOf]; omega
        · rw [take_all hjl, ← NX.out, ← N.out] at hown
          have hbw := hG.of_below HBM.out HO.out hs4
          clear hG HMS
          go_wp2_with fail
          go_roundw
          case rel => exact ⟨k + 1, by omega, by go_num, hown, hbw⟩
          case measure => simp [intOf]; omega
    · rw [take_all hlt] at hown hol
      have hln : (wL fs s ys).length ≤ 274877906944 := by omega
      have DL := hid (dropS_length _ (wL fs s ys) 0 (Nat.le_refl _))
      generalize wL fs s ys = l1 at *
      have HO := hid hown
      have HN := hid hnx
      clear hown hnx
      go_wp2_with fail
      go_loopw [7, 12] (fun u i wr => ∃ (l : List F) (i' : Nat), i' ≤ l.length ∧ l.length ≤ l1.length ∧ i = .int .i64 i' ∧ lenOf u = l.length ∧ wr.ownsRow w2.heap.size 34 2 u l.length (l.flatMap cF) ∧ Hid (dropS l i' = ds) ∧ Below w2.heap.size w2 wr) (fun u i _ => lenOf u - (intOf i).toNat)
      case atStart =>
        refine ⟨l1, 0, Nat.zero_le _, Nat.le_refl _, rfl, ?_, HO.out, hid DS.out, HN.out⟩
        obtain ⟨ao, cap, rfl⟩ := (show RdF wo u7 l1 from RdC.of_owns cF_length HO.out (by omega)).form
        rfl
      case round =>
        obtain ⟨l, i, hil, hll1, rfl, hlo, hown, D, hnx⟩ := hrel
        obtain ⟨wo, rfl⟩ : ∃ wo : World, wo = wr := ⟨_, rfl⟩
        have hsz := hnx.size
        have R := hid (show RdF wo u7 l from RdC.of_owns cF_length hown (by omega))
        obtain ⟨uo, ucap, rfl, h1, h2, h3⟩ := R.out
        by_cases hlt : i < l.length
        · obtain ⟨b, off, rfl, hb, hc⟩ := h3 (by omega)
          obtain ⟨f, hf⟩ := get_some hlt
          obtain ⟨ao', cap', he, -, hfc⟩ := R.out.split
          cases he
          obtain ⟨b', off', he, hfc⟩ := hfc i f hf
          cases he
          have HFC := hid hfc
          have V1 := hid (RdC.take (k := i) R.out (by omega))
          have V2 := hid (RdC.drop cF_length (k := i + 1) R.out (by omega))
          have hlen : (l.take i).length + (l.drop (i + 1)).length < 1099511627776 := by simp; omega
          have CC := hid (fun (x y : Value) (W : World) (h0 : W.cell? ⟨wo.heap.size, 0, none⟩ = some x) (h1 : W.cell? ⟨wo.heap.size, 1, none⟩ = some y) (hx : RdF W x (l.take i)) (hy : RdF W y (l.drop (i + 1))) => concat_any (l.take i) (l.drop (i + 1)) x y wo.heap.size W h0 h1 hx hy hlen)
          have CCE := hid (show l.take i ++ l.drop (i + 1) = othersF l i from rfl)
          have RB := hid (redB_at hf)
          have HOL := hid (others_length hlt)
          have i0 : (0 : Int) ≤ (i : Int) := by omega
          have i1 : (i : Int) < (l.length : Int) := by omega
          have i2 : (i : Int) ≤ (ucap : Int) := by omega
          have i3 : (l.length : Int) ≤ (ucap : Int) := by omega
          have i4 : (i : Int) + 1 ≤ (l.length : Int) := by omega
          have i5 : (i : Int) + 1 ≤ (ucap : Int) := by omega
          have i6 : (0 : Int) ≤ (i : Int) + 1 := by omega
          have hw := IntWalk.i64_in ((i : Int) + 1) (by omega)
          have i7 : ((i : Int) + 1).toNat = i + 1 := by omega
          have HN := hid hnx
          have HOW := hid hown
          clear h3 hc hlen hnx hown hf hfc
          by_cases hcap : ucap = i + 1
          · subst hcap
            rw [if_pos rfl, show l.length - (i + 1) = 0 by omega, Nat.sub_self] at V2
            have i2 : (i : Int) ≤ (i : Int) + 1 := by omega
            have i3 : (l.length : Int) ≤ (i : Int) + 1 := by omega
            clear i5
            have hsub : l.length - (i + 1) = 0 := by omega
            go_wp2_with fail
            go_region_held3 (fun W => Below wo.heap.size wo W)
              (first | exact (Below.refl _ _).drew | exact (below_alloc _ _).drew | assumption)
              (first
                | (go_at_call 42; refine (CC.out _ _ _ (by simp) (by simp) (V1.out.below (below_alloc _ _).drew) (V2.out.below (below_alloc _ _).drew)).mono ?_; rintro e w5 ⟨v5, rfl, ho5, hb5⟩; have hL : Below wo.heap.size wo w5 := (below_alloc _ _).drew.trans (hb5.mono (by simp))))
            have HL := hid hL
            have HO := hid (own_mono ho5 (show wo.heap.size ≤ _ by simp))
            rw [CCE.out] at HO
            clear hL ho5 hw hb5
            obtain ⟨c0, c1⟩ := HFC.out w5 HL.out
            have R5 := hid (RdC.of_owns cF_length HO.out (by have := HOL.out; omega))
            have I5 := hid (IM.out (othersF l i) f v5 w5 R5.out)
            rw [← RB.out] at I5
            simp only [enc_eq] at I5
            obtain ⟨xo5, xcap5, rfl⟩ := R5.out.form
            cases hq : redB l i with
            | true =>
              rw [hq] at I5
              have D2 := hid ((dropS_yes hlt hq).symm.trans D.out)
              clear hq
              go_wp2_with fail
              refine I5.out.mono ?_
              rintro e w6 ⟨rfl, hb6⟩
              have hn6 := HN.out.trans ((HL.out.trans (hb6.mono HL.out.size)).mono HN.out.size)
              have ho6 := own_mono (own_below HO.out hb6) HN.out.size
              clear hb6 c0 c1
              go_wp2_with fail
              go_roundw
              case rel => exact ⟨othersF l i, i, by rw [HOL.out]; omega, by rw [HOL.out]; omega, rfl, rfl, ho6, D2, hn6⟩
              case measure => simp only [intOf, lenOf]; rw [HOL.out]; omega
            | false =>
              rw [hq] at I5
              have D2 := hid ((dropS_no hlt hq).symm.trans D.out)
              clear hq
              go_wp2_with fail
              refine I5.out.mono ?_
              rintro e w6 ⟨rfl, hb6⟩
              have hn6 := HN.out.trans ((HL.out.trans (hb6.mono HL.out.size)).mono HN.out.size)
              have ho6 := own_below (own_below HOW.out HL.out) hb6
              clear hb6 c0 c1
              go_wp2_with fail
              go_roundw
              case rel => exact ⟨l, i + 1, by omega, hll1, by go_num, rfl, ho6, D2, hn6⟩
              case measure => simp [intOf, lenOf]; omega
          · rw [if_neg hcap] at V2
            go_wp2_with fail
            go_region_held3 (fun W => Below wo.heap.size wo W)
              (first | exact (Below.refl _ _).drew | exact (below_alloc _ _).drew | assumption)
              (first
                | (go_at_call 42; refine (CC.out _ _ _ (by simp) (by simp) (V1.out.below (below_alloc _ _).drew) (V2.out.below (below_alloc _ _).drew)).mono ?_; rintro e w5 ⟨v5, rfl, ho5, hb5⟩; have hL : Below wo.heap.size wo w5 := (below_alloc _ _).drew.trans (hb5.mono (by simp))))
            have HL := hid hL
            have HO := hid (own_mono ho5 (show wo.heap.size ≤ _ by simp))
            rw [CCE.out] at HO
            clear hL ho5 hw hb5
            obtain ⟨c0, c1⟩ := HFC.out w5 HL.out
            have R5 := hid (RdC.of_owns cF_length HO.out (by have := HOL.out; omega))
            have I5 := hid (IM.out (othersF l i) f v5 w5 R5.out)
            rw [← RB.out] at I5
            simp only [enc_eq] at I5
            obtain ⟨xo5, xcap5, rfl⟩ := R5.out.form
            cases hq : redB l i with
            | true =>
              rw [hq] at I5
              have D2 := hid ((dropS_yes hlt hq).symm.trans D.out)
              clear hq
              go_wp2_with fail
              refine I5.out.mono ?_
              rintro e w6 ⟨rfl, hb6⟩
              have hn6 := HN.out.trans ((HL.out.trans (hb6.mono HL.out.size)).mono HN.out.size)
              have ho6 := own_mono (own_below HO.out hb6) HN.out.size
              clear hb6 c0 c1
              go_wp2_with fail
              go_roundw
              case rel => exact ⟨othersF l i, i, by rw [HOL.out]; omega, by rw [HOL.out]; omega, rfl, rfl, ho6, D2, hn6⟩
              case measure => simp only [intOf, lenOf]; rw [HOL.out]; omega
            | false =>
              rw [hq] at I5
              have D2 := hid ((dropS_no hlt hq).symm.trans D.out)
              clear hq
              go_wp2_with fail
              refine I5.out.mono ?_
              rintro e w6 ⟨rfl, hb6⟩
              have hn6 := HN.out.trans ((HL.out.trans (hb6.mono HL.out.size)).mono HN.out.size)
              have ho6 := own_below (own_below HOW.out HL.out) hb6
              clear hb6 c0 c1
              go_wp2_with fail
              go_roundw
              case rel => exact ⟨l, i + 1, by omega, hll1, by go_num, rfl, ho6, D2, hn6⟩
              case measure => simp [intOf, lenOf]; omega
        · have D2 := hid ((dropS_end hlt).symm.trans D.out)
          have hll2 : l.length < 1099511627776 := by omega
          have BF := hid (B2.out.trans (hnx.mono hs2))
          have G := hid (MG.out l _ wo R.out hll2)
          clear D hown hnx h3
          go_wp2_with fail
          refine G.out.mono ?_
          rintro e w5 ⟨v5, rfl, ho5, hb5⟩
          have B5 := hid (BF.out.trans (hb5.mono BF.out.size))
          have O5 := hid (own_mono ho5 BF.out.size)
          rw [D2.out] at O5
          clear hb5 ho5
          go_wp2_with fail
          go_ret2
          exact ⟨_, rfl, O5.out, B5.out⟩

theorem project_any (fs : List F) (s : S) (v : Value) (w : World) (hT : Tab w) (hv : RdF w v fs) :
    Calls Tryd.prog 12 #[v, enc s] w fun e w' => ∃ v', e = .returned (.tuple #[v', .int .i64 (projE fs s)]) ∧ w'.ownsRow w.heap.size 34 2 v' (projR fs s).length ((projR fs s).flatMap cF) ∧ Below w.heap.size w w' := by
  by_cases hE : projE fs s = 0
  · have := project_ok fs s v w hT hv hE
    rw [hE, projR_of hE]; exact this
  · have PR := hid (show projR fs s = [] by unfold projR; rw [if_neg hE])
    rw [PR.out]
    have V := hid (validF_any 16 fs v w hv)
    have SZ := hid (fun (W : World) => asize_any s W)
    have PE := hid (show projE fs s = if validF 16 fs ≠ 0 then validF 16 fs else if s >>> 16 != 0#32 then 1 else if 8 < pop s then 3 else 0 from rfl)
    obtain ⟨ao, cap, rfl, -⟩ := hv.split
    clear hv PR
    simp only [enc_eq] at SZ ⊢
    cases h1 : (validF 16 fs != 0) with
    | true =>
      have e1 : projE fs s = validF 16 fs := by rw [PE.out, if_pos (by simpa using h1)]
      rw [e1]
      clear e1 PE hE
      generalize validF 16 fs = r at *
      go_enter Tryd.func12, Tryd.ntmps12
      go_wp2_with fail
      refine V.out.mono ?_
      rintro e w1 ⟨rfl, hb1⟩
      have B1 := hid hb1
      clear hb1
      go_wp2_with fail
      go_ret2
      exact ⟨_, rfl, World.ownsRow_nil _ _ _ _, B1.out⟩
    | false =>
      have hz : validF 16 fs = 0 := by simpa using h1
      rw [hz] at V
      have PE := hid (PE.out.trans (if_neg (by simpa using hz)))
      clear h1 hz
      cases h2 : (s >>> 16 != 0#32) with
      | true =>
        have e1 : projE fs s = 1 := by rw [PE.out, if_pos h2]
        rw [e1]
        clear e1 PE hE
        go_enter Tryd.func12, Tryd.ntmps12
        go_wp2_with fail
        refine V.out.mono ?_
        rintro e w1 ⟨rfl, hb1⟩
        have B1 := hid hb1
        clear hb1
        go_wp2_with fail
        go_ret2
        exact ⟨_, rfl, World.ownsRow_nil _ _ _ _, B1.out⟩
      | false =>
        have PE := hid (PE.out.trans (if_neg (by rw [h2]; simp)))
        have h8 : 8 < pop s := by
          apply Classical.byContradiction
          intro h; exact hE (PE.out.trans (if_neg h))
        have e1 : projE fs s = 3 := by rw [PE.out, if_pos h8]
        rw [e1]
        have hd8 : decide ((pop s : Int) > 8) = true := by simp; omega
        clear e1 PE hE h8
        generalize pop s = p at *
        go_enter Tryd.func12, Tryd.ntmps12
        go_wp2_with fail
        refine V.out.mono ?_
        rintro e w1 ⟨rfl, hb1⟩
        have B1 := hid hb1
        clear hb1
        go_wp2_with fail
        refine (SZ.out _).mono ?_
        rintro e w2 ⟨rfl, q, rfl⟩
        have B2 := hid (below_drewN' B1.out q)
        go_wp2_with fail
        go_ret2
        exact ⟨_, rfl, World.ownsRow_nil _ _ _ _, B2.out⟩

end Go.Proofs.YtciamnkalmihcaaDoor
