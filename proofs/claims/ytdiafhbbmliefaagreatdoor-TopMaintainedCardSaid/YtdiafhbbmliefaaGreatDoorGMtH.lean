/- Texts that belong together, in one file. -/
import Derived.Test.YtdiafhbbmliefaaGreatDoorGMtF
import Derived.Test.YtdiafhbbmliefaaGreatDoorGSort
import Derived.Test.YtdiafhbbmliefaaGreatDoorGTab14
import Derived.Deep.RegionHeld3
import Derived.Shelf.SlSortCmp.QuietGrown
import Derived.Test.YtdiafhbbmliefaaGreatDoorSortCt
import Derived.Test.YtdiafhbbmliefaaGreatDoorGMtA
import Derived.Test.YtdiafhbbmliefaaGreatDoorGTab30
/- The walks of State.FDs and State.Table. -/
namespace Go.Proofs.YtdiafhbbmliefaaGreatDoor
open Go.RowKit
set_option linter.unusedVariables false

set_option maxHeartbeats 1600000 in
theorem mfds_any (b : Nat) (fv : Value) (xs : List F) (w : World) (hc : w.cell? ⟨b, 4, none⟩ = some fv) (hf : RdF w fv xs) (hl : xs.length ≤ 1000) :
    Calls Tryz.prog 17 #[.pointer (some ⟨b, 0, none⟩)] w fun e w' => ∃ v', e = .returned v' ∧ w'.ownsRow w.heap.size 69 2 v' xs.length (xs.flatMap cF) ∧ Below w.heap.size w w' := by
  have CL := hid (cloneF_any xs fv w hf (by omega))
  obtain ⟨fo, fcap, rfl, -⟩ := hf
  clear hl
  go_enter Tryz.func17, Tryz.ntmps17
  go_wp2_with fail
  refine CL.out.mono ?_
  rintro e w1 ⟨v', rfl, ho, hb⟩
  have HO := hid ho
  have HB := hid hb
  clear ho hb
  go_wp2_with fail
  go_ret
  exact ⟨_, rfl, HO.out, HB.out⟩

set_option maxHeartbeats 6400000 in
set_option maxRecDepth 100000 in
theorem mtable_any (b : Nat) (nm : ByteArray) (ats : List ByteArray) (av rv : Value) (rs : List Row3) (w : World) (h0 : w.cell? ⟨b, 0, none⟩ = some (.string nm)) (h1 : w.cell? ⟨b, 1, none⟩ = some av) (h2 : w.cell? ⟨b, 2, none⟩ = some rv) (ht : RdT w av rv (nm, ats, rs)) (hla : ats.length ≤ 1000) (hlr : rs.length ≤ 1000) (hv1 : ∀ r ∈ rs, r.2.2.length ≤ 1000) :
    Calls Tryz.prog 12 #[.pointer (some ⟨b, 0, none⟩)] w fun e w' => ∃ (av' tv : Value) (rs' : List Row3), e = .returned (.agg #[.string nm, av', tv]) ∧ RdT w' av' tv (nm, ats, rs') ∧ cpAs rs rs' ∧ Below w.heap.size w w' := by
  have CP := hid (fun (xs : List V3) (u : Value) (W : World) (hu : RdV W u xs) (hl : xs.length ≤ 1000) => cloneV_any xs u W hu (by omega))
  have IW := hid (show ∀ x : Int, 0 ≤ x → x ≤ 1000 → IntKind.i64.wrap x = x from fun x h0 h1 => by rw [IntKind.wrap_i64]; omega)
  have hblt : b < w.heap.size := World.block_lt_of_cell? _ _ h0
  obtain ⟨z0, z1, z2⟩ := cells3 (w := w) (a := .string (ByteArray.mk #[])) (b := .slice none 0 0) (c := .slice none 0 0) (t := 48) _ (Below.refl _ _)
  have zf : ∀ j, (w.alloc (.cells #[.string (ByteArray.mk #[]), .slice none 0 0, .slice none 0 0] 48)).frozen? ⟨w.heap.size, j, none⟩ = false := fun j => by simp
  have hb1 := below_alloc w (.cells #[.string (ByteArray.mk #[]), .slice none 0 0, .slice none 0 0] 48)
  obtain ⟨w1, hw1⟩ : ∃ w1 : World, w.alloc (.cells #[.string (ByteArray.mk #[]), .slice none 0 0, .slice none 0 0] 48) = w1 := ⟨_, rfl⟩
  have hs1 : w1.heap.size = w.heap.size + 1 := by rw [← hw1]; simp
  rw [hw1] at z0 z1 z2 zf hb1
  have c0 := (hb1.cell (p := ⟨b, 0, none⟩) hblt).trans h0
  have c1 := (hb1.cell (p := ⟨b, 1, none⟩) hblt).trans h1
  have c2 := (hb1.cell (p := ⟨b, 2, none⟩) hblt).trans h2
  have B1 := hid hb1
  have W1 := hid hw1
  have HS1 := hid hs1
  have HBL := hid hblt
  have HA := hid (RdE.to_cells (ht.1.below B1.out))
  have HR := hid (RdR.below ht.2 B1.out)
  have HZ := hid (And.intro z0 (And.intro z1 (And.intro z2 zf)))
  have HV1 := hid hv1
  have HLA := hid hla
  have HLR := hid hlr
  obtain ⟨ao, acap, rfl, -⟩ := HA.out
  obtain ⟨ro, rcap, rfl, -, hrc⟩ := RdR.split HR.out
  have RC := hid hrc
  clear ht hb1 hw1 hs1 z0 z1 z2 zf hrc hv1 hla hlr h0 h1 h2 hblt
  have CB := hid (And.intro c0 (And.intro c1 c2))
  have KK := hid (fun (W : World) (h1 : Below w1.heap.size w1 W) => show W.cell? ⟨b, 0, none⟩ = some (.string nm) ∧ W.cell? ⟨b, 1, none⟩ = some (.slice ao ats.length acap) ∧ (∀ o, (W.alloc o).cell? ⟨b, 0, none⟩ = some (.string nm)) ∧ (∀ o, (W.alloc o).cell? ⟨b, 1, none⟩ = some (.slice ao ats.length acap)) from by
    have hlt : b < w1.heap.size := by have := HS1.out; have := HBL.out; omega
    have e0 : W.cell? ⟨b, 0, none⟩ = some (.string nm) := (h1.cell (p := ⟨b, 0, none⟩) hlt).trans CB.out.1
    have e1 : W.cell? ⟨b, 1, none⟩ = some (.slice ao ats.length acap) := (h1.cell (p := ⟨b, 1, none⟩) hlt).trans CB.out.2.1
    have hl2 : b < W.heap.size := Nat.lt_of_lt_of_le hlt h1.size
    exact ⟨e0, e1, fun o => ((below_alloc W o).cell (p := ⟨b, 0, none⟩) hl2).trans e0, fun o => ((below_alloc W o).cell (p := ⟨b, 1, none⟩) hl2).trans e1⟩)
  have ka0 : ∀ o, (w1.alloc o).cell? ⟨b, 0, none⟩ = some (.string nm) := fun o => ((below_alloc w1 o).cell (p := ⟨b, 0, none⟩) (by have := HS1.out; have := HBL.out; show b < _; omega)).trans c0
  have ka1 : ∀ o, (w1.alloc o).cell? ⟨b, 1, none⟩ = some (.slice ao ats.length acap) := fun o => ((below_alloc w1 o).cell (p := ⟨b, 1, none⟩) (by have := HS1.out; have := HBL.out; show b < _; omega)).trans c1
  have kb0 : ∀ o o', ((w1.alloc o).alloc o').cell? ⟨b, 0, none⟩ = some (.string nm) := fun o o' => ((below_alloc (w1.alloc o) o').cell (p := ⟨b, 0, none⟩) (by have := HS1.out; have := HBL.out; show b < _; simp; omega)).trans (ka0 o)
  have kb1 : ∀ o o', ((w1.alloc o).alloc o').cell? ⟨b, 1, none⟩ = some (.slice ao ats.length acap) := fun o o' => ((below_alloc (w1.alloc o) o').cell (p := ⟨b, 1, none⟩) (by have := HS1.out; have := HBL.out; show b < _; simp; omega)).trans (ka1 o)
  have CT := hid (fun (W : World) (h : Below w1.heap.size w1 W) => cloneT_any ats (.slice ao ats.length acap) W (RdC.below HA.out h) (by have := HLA.out; omega))
  have Y3 := hid (show Below w1.heap.size w1 ((w1.drewN 1).alloc (.cells #[.string (ByteArray.mk #[]), .slice none 0 0, .slice none 0 0] 48)) from (below_drewN w1.heap.size w1 1).alloc (by simp) _)
  have TZ3 := hid (fun (W : World) (h : Below ((w1.drewN 1).alloc (.cells #[.string (ByteArray.mk #[]), .slice none 0 0, .slice none 0 0] 48)).heap.size ((w1.drewN 1).alloc (.cells #[.string (ByteArray.mk #[]), .slice none 0 0, .slice none 0 0] 48)) W) => show (W.cell? ⟨w1.heap.size, 0, none⟩ = some (.string (ByteArray.mk #[])) ∧ W.cell? ⟨w1.heap.size, 1, none⟩ = some (.slice none 0 0) ∧ W.cell? ⟨w1.heap.size, 2, none⟩ = some (.slice none 0 0)) ∧ W.frozen? ⟨w1.heap.size, 0, none⟩ = false ∧ W.frozen? ⟨w1.heap.size, 1, none⟩ = false ∧ W.frozen? ⟨w1.heap.size, 2, none⟩ = false ∧ W.heap[w1.heap.size]? = some (.cells #[.string (ByteArray.mk #[]), .slice none 0 0, .slice none 0 0] 48 (0, 0)) from by
    have hc := cells3 (w := w1.drewN 1) (a := .string (ByteArray.mk #[])) (b := .slice none 0 0) (c := .slice none 0 0) (t := 48) W h
    have hn := heap_alloc_new (w1.drewN 1) (.cells #[.string (ByteArray.mk #[]), .slice none 0 0, .slice none 0 0] 48)
    have hf : ∀ j, ((w1.drewN 1).alloc (.cells #[.string (ByteArray.mk #[]), .slice none 0 0, .slice none 0 0] 48)).frozen? ⟨w1.heap.size, j, none⟩ = false := fun j => by
      have := World.frozen?_alloc_new (w1.drewN 1) #[.string (ByteArray.mk #[]), .slice none 0 0, .slice none 0 0] 48 j
      simpa using this
    have hlt : w1.heap.size < ((w1.drewN 1).alloc (.cells #[.string (ByteArray.mk #[]), .slice none 0 0, .slice none 0 0] 48)).heap.size := by simp
    have hs : (w1.drewN 1).heap.size = w1.heap.size := rfl
    rw [hs] at hc hn
    exact ⟨hc, (h.frozen (p := ⟨w1.heap.size, 0, none⟩) hlt).trans (hf 0), (h.frozen (p := ⟨w1.heap.size, 1, none⟩) hlt).trans (hf 1), (h.frozen (p := ⟨w1.heap.size, 2, none⟩) hlt).trans (hf 2), (h.block w1.heap.size hlt).trans hn⟩)
  clear c0 c1 c2
  obtain ⟨c0, c1, c2⟩ := CB.out
  go_enter Tryz.func12, Tryz.ntmps12
  go_upto_region 1 with fail
  rw [W1.out]
  go_cut [3] (fun s5 wx => ∃ tb o2 cap2, s5 = .pointer (some ⟨tb, 0, none⟩) ∧ WithS w1 wx tb nm (.slice o2 ats.length cap2) ats)
  case first =>
    go_region_law (first
      | (go_simp; go_at_call 24; refine (CT.out _ (below_drewN w1.heap.size w1 1)).mono ?_; rintro e w2 ⟨v2, rfl, ho2, hb2⟩; have hL := (below_drewN w1.heap.size w1 1).trans hb2; obtain ⟨o2, cap2, rfl, -⟩ := RdC.of_owns cT1_length ho2 (by have := HLA.out; omega); obtain ⟨yb0, yb1, yb2, yb3⟩ := KK.out w2 hL; have WS := hid (WithS.mk_alloc (nm := nm) (v := .slice o2 ats.length cap2) (ats := ats) hL ho2 HLA.out))
      | (go_simp; go_at_call 24; refine (CT.out _ Y3.out).mono ?_; rintro e w2 ⟨v2, rfl, ho2, hb2⟩; have hL := Y3.out.trans (hb2.mono Y3.out.size); obtain ⟨o2, cap2, rfl, -⟩ := RdC.of_owns cT1_length ho2 (by have := HLA.out; omega); obtain ⟨yb0, yb1, yb2, yb3⟩ := KK.out w2 hL; obtain ⟨⟨yt0, yt1, yt2⟩, yf0, yf1, yf2, yty⟩ := TZ3.out w2 hb2; have WS := hid (WithS.mk_set (nm := nm) (v := .slice o2 ats.length cap2) (ats := ats) hL (own_mono ho2 Y3.out.size) HLA.out yty (Nat.le_refl _) yt0 yt1 yt2 yf2); clear yty))
    all_goals (go_wp2_with fail; go_meet; exact ⟨_, _, _, rfl, WS.out⟩)
  case rest =>
    obtain ⟨tb, o2, cap2, rfl, hws⟩ := hcut
    have HWS := hid hws
    have HM := hid hws.lt
    have hr0 := hid (hws.below)
    have RC2 := hid (fun (k : Nat) (r : Row3) (hr : rs[k]? = some r) => show (∃ b off, ro = some ⟨b, off, none⟩ ∧ b < w1.heap.size ∧ ∀ wr, Below w1.heap.size w1 wr → wr.cell? ⟨b, off + k * 2, none⟩ = some (.int .i64 r.1) ∧ wr.cell? ⟨b, off + k * 2 + 1, none⟩ = some r.2.1) ∧ ∀ wr, Below w1.heap.size w1 wr → RdV wr r.2.1 r.2.2 from by
      obtain ⟨⟨b, off, e1, e2⟩, e3⟩ := RC.out k r hr
      have e4 := e2 w1 (Below.refl _ _)
      exact ⟨⟨b, off, e1, World.block_lt_of_cell? _ _ e4.1, fun wr h => e2 wr h⟩, fun wr h => e3 wr h⟩)
    have x2 := (hr0.out.cell (p := ⟨b, 2, none⟩) (by have := HS1.out; have := HBL.out; show b < _; omega)).trans CB.out.2.2
    clear hws ka0 ka1 kb0 kb1 Y3 TZ3 KK CT c0 c1 c2
    go_wp2_with fail
    go_loopw [24] (fun i wr => ∃ (k : Nat) (rs' : List Row3) (tv : Value), k ≤ rs.length ∧ i = .int .i64 k ∧ (wr.cell? ⟨tb, 0, none⟩ = some (.string nm) ∧ wr.cell? ⟨tb, 1, none⟩ = some (.slice o2 ats.length cap2) ∧ wr.cell? ⟨tb, 2, none⟩ = some tv) ∧ wr.frozen? ⟨tb, 2, none⟩ = false ∧ Hid (OwnTR wr wc.heap.size tv rs') ∧ Hid (cpAs (rs.take k) rs') ∧ Hid (KeptX wc.heap.size tb wc wr) ∧ wc.heap.size ≤ wr.heap.size) (fun i _ => rs.length - (intOf i).toNat)
    case atStart => exact ⟨0, [], _, by omega, rfl, ⟨HWS.out.c0, HWS.out.c1, HWS.out.c2⟩, HWS.out.fz, hid ⟨World.ownsRow_nil _ _ _ _, fun _ h => absurd h (by simp), List.Pairwise.nil⟩, hid rfl, hid (KeptX.refl _ _ _), Nat.le_refl _⟩
    case round =>
      obtain ⟨k, rs', tv, hk, rfl, ⟨t0, t1, t2⟩, tf, OTR, HMP, HKX, hM6⟩ := hrel
      have hso : tb < wr.heap.size := World.block_lt_of_cell? _ _ t0
      have HLQ := hid (show rs'.length ≤ k by have := HMP.out.len; have h2 := List.length_take_le k rs; omega)
      have HRL := hid (show rs'.length ≤ 1000 by have := HLQ.out; have := HLR.out; omega)
      have BW := hid (show Below w1.heap.size w1 wr from hr0.out.trans (HKX.out.below.mono HWS.out.lo))
      have k0 : (0 : Int) ≤ (k : Int) := by omega
      have k9 : (k : Int) ≤ 1000 := by have := HLR.out; omega
      by_cases hlt : k < rs.length
      · obtain ⟨⟨id, u, xs⟩, hx⟩ := get_some hlt
        obtain ⟨⟨b, off, rfl, hbl, hce⟩, hrv⟩ := RC2.out k (id, u, xs) hx
        obtain ⟨e0, e1⟩ := hce wr BW.out
        have HRV := hid (hrv wr BW.out)
        have HXL := hid (HV1.out _ (List.mem_of_getElem? hx))
        have EXK := hid hx
        simp only at e0 e1
        obtain ⟨uo, ucap, hu, -⟩ := RdV.split HRV.out
        simp only at hu
        subst hu
        obtain ⟨wo, rfl⟩ : ∃ wo : World, wo = wr := ⟨_, rfl⟩
        have hbq := below_alloc wo (.cells #[.int .i64 id, .slice uo xs.length ucap] 44)
        obtain ⟨q0, q1⟩ := cells2 (w := wo) (a := .int .i64 id) (b := .slice uo xs.length ucap) (t := 44) _ (Below.refl _ _)
        obtain ⟨wr, hwr⟩ : ∃ wr : World, wo.alloc (.cells #[.int .i64 id, .slice uo xs.length ucap] 44) = wr := ⟨_, rfl⟩
        rw [hwr] at hbq q0 q1
        have WQ := hid hwr
        have hsq : wo.heap.size < wr.heap.size := by rw [← hwr]; simp
        have HCR := hid (show ∀ W : World, Below wr.heap.size wr W → Calls Tryz.prog 34 #[.slice uo xs.length ucap] W fun e w' => ∃ v', e = .returned v' ∧ w'.ownsRow W.heap.size 37 3 v' xs.length (xs.flatMap cV) ∧ Below W.heap.size W w' from fun W h => CP.out xs _ W (RdC.below (RdC.below HRV.out hbq) h) HXL.out)
        have T0 := (hbq.cell (p := ⟨tb, 0, none⟩) hso).trans t0
        have T1 := (hbq.cell (p := ⟨tb, 1, none⟩) hso).trans t1
        have T2 := (hbq.cell (p := ⟨tb, 2, none⟩) hso).trans t2
        have TF := (hbq.frozen (p := ⟨tb, 2, none⟩) hso).trans tf
        have hsr : tb < wr.heap.size := by omega
        have KS := hid (fun (W : World) (h : Below wr.heap.size wr W) => show W.cell? ⟨tb, 0, none⟩ = some (.string nm) ∧ W.cell? ⟨tb, 1, none⟩ = some (.slice o2 ats.length cap2) ∧ W.cell? ⟨tb, 2, none⟩ = some tv ∧ W.frozen? ⟨tb, 2, none⟩ = false ∧ W.cell? ⟨wo.heap.size, 0, none⟩ = some (.int .i64 id) ∧ W.cell? ⟨wo.heap.size, 1, none⟩ = some (.slice uo xs.length ucap) from
          ⟨(h.cell (p := ⟨tb, 0, none⟩) hsr).trans T0, (h.cell (p := ⟨tb, 1, none⟩) hsr).trans T1, (h.cell (p := ⟨tb, 2, none⟩) hsr).trans T2, (h.frozen (p := ⟨tb, 2, none⟩) hsr).trans TF, (h.cell (p := ⟨wo.heap.size, 0, none⟩) hsq).trans q0, (h.cell (p := ⟨wo.heap.size, 1, none⟩) hsq).trans q1⟩)
        have HNT := hid (show some tb ≠ tv.ownBlock from fun e => by have := (OTR.out.rows.lt _ e.symm).1; have := HM.out; omega)
        have OTQ := hid (OTR.out.below hbq)
        have HO := hid OTQ.out.rows
        have HSO := hid hso
        have HM6 := hid (show wc.heap.size ≤ wr.heap.size by omega)
        have HKQ := hid (HKX.out.later hbq hM6 (Nat.le_of_lt hso))
        have HLT := hid hlt
        have LEN9 := hid (fun y : Row3 => show (rs' ++ [y]).length ≤ 35184372088832 by have := HRL.out; rw [List.length_append, List.length_singleton]; omega)
        have CNR := hid (fun (W : World) (y : Row3) => cells_newR W y (t := 44))
        have HWN := hid (show ∀ r ∈ rs', ∀ j, r.2.1.ownBlock = some j → j < wr.heap.size from fun r hr j e => ((OTQ.out.vals r hr).lt j e).2)
        rw [← hwr] at T0 T1 T2 TF q0 q1
        clear hx hce hrv hbl hwr hbq hsq hM6 hsr t0 t1 t2 tf
        go_wp2_with fail
        rw [WQ.out] at T0 T1 T2 TF q0 q1 ⊢
        go_region_law (first
          | (go_simp; go_at_call 34; refine (HCR.out _ (below_drewN wr.heap.size wr 1)).mono ?_; rintro e w5 ⟨v5, rfl, hov, hb5⟩; have hL := (below_drewN wr.heap.size wr 1).trans hb5; obtain ⟨o5, cap5, rfl, -⟩ := RdC.of_owns cV_length hov (by have := HXL.out; omega); have ho5 := own_below HO.out.drew hb5; obtain ⟨d0, d1, d2, d3, d4, d5⟩ := KS.out _ hL; obtain ⟨b0, b1, b2, b3, b4, b5⟩ := KS.out _ (hL.alloc hL.size (.cells #[.int .i64 id, .slice o5 xs.length cap5] 44)); clear hb5)
          | (refine step_pushB (by rfl) _ _ 46 (by rfl) wc.heap.size 44 (.agg #[.int .i64 0, .slice none 0 0]) 2 32 undRows infoRow rfl (by decide) (by decide) cR cR_length _ rs' (by rfl) (ho5.alloc (.cells #[.int .i64 id, .slice o5 xs.length cap5] 44)) ⟨w5.heap.size, 0, none⟩ ((id, .slice o5 xs.length cap5, xs) : Row3) (by intro u hu; simp [cR] at hu; rcases hu with rfl | rfl <;> rfl) (by rfl) (CNR.out w5 ((id, .slice o5 xs.length cap5, xs) : Row3)) (by have := HRL.out; omega) (by have := HM6.out; have := hL.size; simp; omega) ?_; intro v8 w8 hown8' hg8 hv8; obtain ⟨o8, cap8, rfl, -⟩ := RdC.of_owns cR_length hown8' (LEN9.out _); have u0 := (hg8.cell_far ⟨tb, 0, none⟩ (World.block_lt_of_cell? _ _ b0) HNT.out).trans b0; have u1 := (hg8.cell_far ⟨tb, 1, none⟩ (World.block_lt_of_cell? _ _ b1) HNT.out).trans b1; have u2 := (hg8.cell_far ⟨tb, 2, none⟩ (World.block_lt_of_cell? _ _ b2) HNT.out).trans b2; have uf := (hg8.frozen_far ⟨tb, 2, none⟩ (World.block_lt_of_cell? _ _ b2) HNT.out).trans b3))
        all_goals
          obtain ⟨y, hy⟩ : ∃ y : Row3, ((id, .slice o5 xs.length cap5, xs) : Row3) = y := ⟨_, rfl⟩
          have HY1 := hid (show y.2.1 = .slice o5 xs.length cap5 by rw [← hy])
          have HY2 := hid (show y.2.2 = xs by rw [← hy])
          have YM := hid (show ((y.1, y.2.2) : Int × List V3) = (id, xs) by rw [← hy])
          have hown8 : w8.ownsRow wc.heap.size 44 2 (.slice o8 (rs' ++ [((id, .slice o5 xs.length cap5, xs) : Row3)]).length cap8) (rs' ++ [y]).length ((rs' ++ [y]).flatMap cR) := by rw [← hy]; exact hown8'
          rw [hy] at hown8
          try rw [hy]
          have hba := below_alloc w5 (.cells #[.int .i64 id, .slice o5 xs.length cap5] 44)
          have BWA := hid (hL.trans (hba.mono hL.size))
          have hsa : wr.heap.size ≤ (w5.alloc (.cells #[.int .i64 id, .slice o5 xs.length cap5] 44)).heap.size := BWA.out.size
          obtain ⟨wa, hwa⟩ : ∃ wa : World, w5.alloc (.cells #[.int .i64 id, .slice o5 xs.length cap5] 44) = wa := ⟨_, rfl⟩
          rw [hwa] at hg8 BWA hsa hba
          have OVA : wa.ownsRow wr.heap.size 37 3 y.2.1 y.2.2.length (y.2.2.flatMap cV) := by rw [HY1.out, HY2.out]; exact own_below hov hba
          have OT9 := hid ((OTQ.out.below BWA.out).push HM6.out HWN.out OVA hg8 hown8)
          have OT10 := hid (OT9.out.set (o := 2) HM.out (.slice o8 (rs' ++ [y]).length cap8))
          have KX8 := (HKQ.out.later BWA.out HM6.out (by have := HSO.out; have := HM6.out; have := HM.out; omega)).grown hg8 (Nat.le_trans HM6.out hsa) (Nat.le_of_lt HM.out) (fun j hj => (HO.out.lt j hj).1)
          have KX9 := hid (KX8.set (o := 2) (.slice o8 (rs' ++ [y]).length cap8))
          have HM9 := hid (show cpAs (rs.take (k + 1)) (rs' ++ [y]) by
            have h := HMP.out
            unfold cpAs at h ⊢
            rw [List.map_append, h, take_next EXK.out, List.map_append, List.map_singleton, List.map_singleton, YM.out])
          have HS9 := hid (show wc.heap.size ≤ (w8.setCell ⟨tb, 2, none⟩ (.slice o8 (rs' ++ [y]).length cap8)).heap.size by have h1 := hg8.size; have h2 := HM6.out; simp; omega)
          have g0 : (w8.setCell ⟨tb, 2, none⟩ (.slice o8 (rs' ++ [y]).length cap8)).cell? ⟨tb, 0, none⟩ = _ := (World.cell?_setCell_other _ _ _ _ (by simp)).trans u0
          have g1 : (w8.setCell ⟨tb, 2, none⟩ (.slice o8 (rs' ++ [y]).length cap8)).cell? ⟨tb, 1, none⟩ = _ := (World.cell?_setCell_other _ _ _ _ (by simp)).trans u1
          have g2 : (w8.setCell ⟨tb, 2, none⟩ (.slice o8 (rs' ++ [y]).length cap8)).cell? ⟨tb, 2, none⟩ = some (.slice o8 (rs' ++ [y]).length cap8) := World.cell?_setCell_same _ _ _ u2
          have gf : (w8.setCell ⟨tb, 2, none⟩ (.slice o8 (rs' ++ [y]).length cap8)).frozen? ⟨tb, 2, none⟩ = false := by simp [uf]
          have GG := hid (And.intro g0 (And.intro g1 (And.intro g2 gf)))
          clear g0 g1 g2 gf hown8 hown8' hg8 hv8 hy hwa hsa hba e0 e1 hov hL ho5 u0 u1 u2 uf KX8 b0 b1 b2 b3 b4 b5 d0 d1 d2 d3 d4 d5 OVA T0 T1 T2 TF q0 q1
          try rw [show rs'.length + 1 = (rs' ++ [y]).length by simp]
          generalize w8.setCell ⟨tb, 2, none⟩ (.slice o8 (rs' ++ [y]).length cap8) = w9 at *
          go_wp2_with fail
          go_roundw
          case rel => exact ⟨k + 1, rs' ++ [y], _, by have := HLT.out; omega, by go_num, ⟨GG.out.1, GG.out.2.1, GG.out.2.2.1⟩, GG.out.2.2.2, OT10, HM9, KX9, HS9.out⟩
          case measure => have := HLT.out; simp [intOf]; omega
      · have hk3 : k = rs.length := by omega
        have HMf := hid (show cpAs rs rs' by have h := HMP.out; rwa [hk3, List.take_length] at h)
        obtain ⟨tq, tcap, rfl, -⟩ := RdC.of_owns cR_length OTR.out.rows (by have := HRL.out; omega)
        have AV9 := hid (HKX.out.rdF hM6 HWS.out.rd HWS.out.ftb)
        have hwt : w.heap.size < tb := by have := HWS.out.lo; have := HS1.out; omega
        have hw1 : w.heap.size < w1.heap.size := by have := HS1.out; omega
        have z0 := (BW.out.cell (p := ⟨w.heap.size, 0, none⟩) hw1).trans HZ.out.1
        have z1 := (BW.out.cell (p := ⟨w.heap.size, 1, none⟩) hw1).trans HZ.out.2.1
        have z2 := (BW.out.cell (p := ⟨w.heap.size, 2, none⟩) hw1).trans HZ.out.2.2.1
        have zf0 := (BW.out.frozen (p := ⟨w.heap.size, 0, none⟩) hw1).trans (HZ.out.2.2.2 0)
        have zf1 := (BW.out.frozen (p := ⟨w.heap.size, 1, none⟩) hw1).trans (HZ.out.2.2.2 1)
        have zf2 := (BW.out.frozen (p := ⟨w.heap.size, 2, none⟩) hw1).trans (HZ.out.2.2.2 2)
        have BF := hid (B1.out.trans (BW.out.mono (Nat.le_of_lt hw1)))
        have HWT := hid hwt
        have FA := hid (fun (j : Nat) (hj : j < w1.heap.size) => HWS.out.far j hj)
        have FB := hid (fun (j : Nat) (hj : wc.heap.size ≤ j) => RdE.blk HWS.out.rd hj)
        have HW1 := hid hw1
        have LOM := hid (show w.heap.size ≤ wc.heap.size by have := HM.out; omega)
        clear hwt hw1
        go_wp2_with fail
        obtain ⟨wf, hwf⟩ : ∃ wf : World, ((wr.setCell ⟨w.heap.size, 0, none⟩ (.string nm)).setCell ⟨w.heap.size, 1, none⟩ (.slice o2 ats.length cap2)).setCell ⟨w.heap.size, 2, none⟩ (.slice tq rs'.length tcap) = wf := ⟨_, rfl⟩
        obtain ⟨r0, r1, r2⟩ := set3w z0 z1 z2 hwf
        have QA : RdE encT wf (.slice o2 ats.length cap2) ats := by
          rw [← hwf]; exact RdE.set3 AV9.out (FA.out _ HW1.out)
        have hzM : w.heap.size < wc.heap.size := by have := HWT.out; have := HM.out; omega
        have QO : OwnTR wf wc.heap.size (.slice tq rs'.length tcap) rs' := by rw [← hwf]; exact ((OTR.out.set hzM _).set hzM _).set hzM _
        have QSZ : wc.heap.size ≤ wf.heap.size := by rw [← hwf]; simpa using hM6
        have QF : ∀ j, j < w.heap.size ∨ wc.heap.size ≤ j → FarV (.slice o2 ats.length cap2) (some j) := fun j hj => hj.elim (fun h => FA.out j (by have := HW1.out; omega)) (fun h => FB.out j h)
        have QB : Below w.heap.size w wf := by rw [← hwf]; exact ((BF.out.setCell (p := ⟨w.heap.size, 0, none⟩) (by simp) _).setCell (p := ⟨w.heap.size, 1, none⟩) (by simp) _).setCell (p := ⟨w.heap.size, 2, none⟩) (by simp) _
        rw [hwf]
        exact bodyPost_ret (v := .agg #[.string nm, .slice o2 ats.length cap2, .slice tq rs'.length tcap]) (by simp [results, Tryz.results12, go_sem, r0, r1, r2]) rfl ⟨_, _, rs', rfl, ⟨QA, QO.rd HRL.out (HMf.out.vals HV1.out)⟩, HMf.out, QB⟩

end Go.Proofs.YtdiafhbbmliefaaGreatDoor


/- The walk of State.Keys. -/
namespace Go.Proofs.YtdiafhbbmliefaaGreatDoor
open Go.RowKit
set_option linter.unusedVariables false

theorem mkeys1_any (s : S) (b : Nat) (x : S) (w : World) (hc : w.cell? ⟨b, 0, none⟩ = some (enc s)) :
    Calls Tryz.prog 47 (#[enc x] ++ #[.pointer (some ⟨b, 0, none⟩)]) w fun e w' => e = .returned (.bool (x &&& ~~~ s == 0#32)) ∧ w = w' := by
  show Calls Tryz.prog 47 #[enc x, .pointer (some ⟨b, 0, none⟩)] w _
  unfold enc at hc ⊢
  go_enter Tryz.func47, Tryz.ntmps47
  go_wp2
  go_ret
  exact ⟨rfl, rfl⟩

set_option maxHeartbeats 6400000 in
set_option maxRecDepth 100000 in
theorem mkeys_any (b mb n k : Nat) (ps : List S) (ao : Option Addr) (acap : Nat) (w : World) (hc1 : w.cell? ⟨b, 1, none⟩ = some (.slice ao k acap)) (hc3 : w.cell? ⟨b, 3, none⟩ = some (.map (some mb)))
    (ho : OwnC w mb n (cntF ps) (memB ps)) (hk6 : k ≤ 6) :
    Calls Tryz.prog 19 #[.pointer (some ⟨b, 0, none⟩)] w fun e w' => ∃ v', e = .returned v' ∧ w'.ownsRow w.heap.size 67 1 v' (keyN k ps).length ((keyN k ps).map enc) ∧ Below w.heap.size w w' := by
  have hblt := World.block_lt_of_cell? _ _ hc1
  have hmlt := ho.lt
  have HO := hid ho
  have C3 := hid hc3
  have AL := hid (fun (W : World) (h : W.cell? ⟨b, 1, none⟩ = some (.slice ao k acap)) => mall_any b k ao acap W h (by omega))
  have SB := hid (fun W => asubsets_any (1#32 <<< k - 1#32) W)
  have SF := hid (shl_full (show k < 32 by omega))
  have PF := hid (pop_full12 (show k ≤ 12 by omega))
  simp only [enc_eq] at SB
  have H6 := hid hk6
  have m6 : (k : Int) ≤ 6 := by omega
  have m0 : (0 : Int) ≤ (k : Int) := by omega
  have CF := hid (fun (b : Nat) (s : S) (out : List S) (u : Value) (W : World) (hu : RdE enc W u out) (hc : W.cell? ⟨b, 0, none⟩ = some (enc s)) => containsFunc_any 47 #[.pointer (some ⟨b, 0, none⟩)] (fun y => y &&& ~~~ s == 0#32) out u W hu
    (enters _ _ _ Tryz.func47 (by kernel_rfl) rfl) (fun y => mkeys1_any s b y W hc))
  have MEM := hid (show ∀ s, memB ps s = decide (s ∈ ps) from fun _ => rfl)
  have UST := hid (fun (out : List S) (x : S) => show unqStep ps out x = if (!ps.any fun y => x &&& ~~~ y == 0#32) && !out.any (fun y => y &&& ~~~ x == 0#32) then out ++ [x] else out from rfl)
  obtain ⟨mp, hmp⟩ : ∃ mp, memB ps = mp := ⟨_, rfl⟩
  obtain ⟨cp, hcp⟩ : ∃ cp, cntF ps = cp := ⟨_, rfl⟩
  rw [hmp] at MEM HO
  rw [hcp] at HO
  clear ho hk6 hmp hcp
  go_enter Tryz.func19, Tryz.ntmps19
  go_wp2_with fail
  refine (AL.out _ hc1).mono ?_
  rintro e w' ⟨rfl, rfl⟩
  go_wp2_with fail
  refine (SB.out _).mono ?_
  rintro e w4 ⟨v4, ys, rfl, hown4, hsp, hyl, hb4⟩
  have HS := hid (hsp.2 (by rw [SF.out]; exact PF.out))
  rw [SF.out] at HS
  have KY := hid (unqL_key (ps := ps) HS.out)
  have YL := hid (show ys.length ≤ 64 by
    have h1 : ys.length ≤ 2 ^ k := ord_bound HS.out.1 fun s hs => full_pow (by have := H6.out; omega) ((HS.out.2 s).1 hs)
    have h2 : 2 ^ k ≤ 2 ^ 6 := Nat.pow_le_pow_right (by decide) H6.out
    omega)
  have RY := RdE.of_owns hown4 (by have := YL.out; omega)
  obtain ⟨yo, ycap, rfl, hyl2, hyc⟩ := RY.split
  have YC := hid hyc
  unfold enc at YC
  have y64 : (ys.length : Int) ≤ 64 := by have := YL.out; omega
  have M4 := hid (HO.out.below hb4)
  have B4 := hid hb4
  have C34 := hid ((hb4.cell (p := ⟨b, 3, none⟩) hblt).trans C3.out)
  have BLT := hid (show b < w4.heap.size from Nat.lt_of_lt_of_le hblt hb4.size)
  clear hown4 hsp hyl hb4 SB RY hyc hc1 hc3 C3 HO hblt hmlt HS
  go_wp2_with fail
  go_loopw [3, 12] (fun u idx wr => ∃ (i : Nat), i ≤ ys.length ∧ idx = .int .i64 i ∧ wr.ownsRow w4.heap.size 67 1 u (unqL ps (ys.take i)).length ((unqL ps (ys.take i)).map enc) ∧ Below w4.heap.size w4 wr) (fun _ idx _ => ys.length - (intOf idx).toNat)
  case atStart => exact ⟨0, Nat.zero_le _, rfl, World.ownsRow_nil _ _ _ _, Below.refl _ _⟩
  case round =>
    obtain ⟨wo, rfl⟩ : ∃ wo : World, wo = wr := ⟨_, rfl⟩
    obtain ⟨i, hi, rfl, hown, hnx⟩ := hrel
    have i0 : (0 : Int) ≤ (i : Int) := by omega
    by_cases hlt : i < ys.length
    · obtain ⟨X, hX⟩ := get_some hlt
      have hltO : (i : Int) < (ys.length : Int) := by omega
      obtain ⟨fb, foff, rfl, hd⟩ := YC.out i X hX
      have e0 := hd wo hnx
      have hlen := unqL_length ps (ys.take i)
      rw [List.length_take] at hlen
      have OLE := hid (show (unqL ps (ys.take i)).length ≤ 64 by have := YL.out; omega)
      have NX := hid (unqL_next (ps := ps) hX)
      obtain ⟨out, hout⟩ : ∃ out, unqL ps (ys.take i) = out := ⟨_, rfl⟩
      rw [hout] at OLE NX hown
      have ST := hid (UST.out out X)
      have BX := hid (below_alloc wo (.cells #[.int .u32 (iv X)] 67))
      have OW := hid hown
      have HNX := hid hnx
      have CX := hid (show (wo.alloc (.cells #[.int .u32 (iv X)] 67)).cell? ⟨wo.heap.size, 0, none⟩ = some (.int .u32 (iv X)) from cell_new (w := wo))
      have OWX := hid (own_below hown BX.out)
      have HLT := hid hlt
      have LO := hid hnx.size
      obtain ⟨bx, hbx⟩ : ∃ bx, wo.heap.size = bx := ⟨_, rfl⟩
      obtain ⟨wx, hwx⟩ : ∃ wx : World, wo.alloc (.cells #[.int .u32 (iv X)] 67) = wx := ⟨_, rfl⟩
      have SBX := hid (show bx < wx.heap.size by rw [← hbx, ← hwx]; simp)
      rw [hbx, hwx] at CX
      rw [hwx] at OWX BX
      have BWX := hid (hnx.trans (BX.out.mono hnx.size))
      have HBX := hid hbx
      have WX := hid hwx
      obtain ⟨ao8, cap8, he8, -⟩ := (RdE.of_owns hown (by have := OLE.out; omega)).split
      subst he8
      have CF1 := hid (CF.out bx X out _ wx (RdE.of_owns OWX.out (by have := OLE.out; omega)) CX.out)
      obtain ⟨OB, hOB⟩ : ∃ OB, out.any (fun y => y &&& ~~~ X == 0#32) = OB := ⟨_, rfl⟩
      rw [hOB] at CF1 ST
      have x3 := (BWX.out.cell (p := ⟨b, 3, none⟩) BLT.out).trans C34.out
      have XM := hid (M4.out.below BWX.out)
      have x0 := CX.out
      clear hX hd hown hnx hlen hout hbx hwx hOB hlt
      go_wp2_with fail
      rw [WX.out, HBX.out]
      refine CF1.out.mono ?_
      rintro e w' ⟨rfl, rfl⟩
      go_wp2_with (at_range; refine wpList_krange (E := cntElems Tryz.prog 2 undI64) (z := 0) (k := 67) rfl _ 75 rfl undU32 undMapC rfl XM.out ?_; intro wi cnt hrg hcn hbi hsi)
      go_frame
      have OWI := hid (own_below OWX.out hbi)
      have BWI := hid (BWX.out.trans (hbi.mono BWX.out.size))
      have CXi := hid ((hbi.cell (p := ⟨bx, 0, none⟩) SBX.out).trans CX.out)
      obtain ⟨r, hr⟩ : ∃ r, wx.heap.size = r := ⟨_, rfl⟩
      rw [hr] at hrg ⊢
      have NR := hid (show bx < r ∧ (Value.slice ao8 out.length cap8).ownBlock ≠ some r ∧ w4.heap.size ≤ r ∧ r < wi.heap.size ∧ w4.heap.size ≤ bx from by
        have h1 := SBX.out; have h2 := BWX.out.size; have h3 := LO.out; have h4 := HBX.out
        exact ⟨by omega, fun e => by have := (OWX.out.lt _ e).2; omega, by omega, by omega, by omega⟩)
      have RG := hid hrg
      clear hrg hbi hsi XM x0 x3 e0 hr
      go_loopw [6] (fun c wr => ∃ (left : S → Bool) (cnt : Nat) (ks : List S) (C : Bool), Hid (RngC wr mb r n cp mp left cnt) ∧ c = .bool C ∧ Hid (C = (!OB && !ks.any (fun y => X &&& ~~~ y == 0#32))) ∧ Hid (Coll mp left ks) ∧ wi.grownBy wr (some r)) (fun _ wr => wr.rangeLeft mb r)
      case atStart => exact ⟨mp, cnt, [], _, RG, rfl, hid (by simp), hid (Coll.start mp), World.grownBy.refl _ _⟩
      case round =>
        obtain ⟨left, cnt1, ks, C, hrg, rfl, HC, CO, hgi⟩ := hrel
        have hLE := hid hrg.out.left_eq
        have GI := hid hgi
        clear hgi
        go_wp2_with (at_next; refine wpList_knext (E := cntElems Tryz.prog 2 undI64) (z := 0) (k := 67) rfl _ rfl undU32 rfl hrg.out ?_ ?_)
        · intro hc0 hl0
          have HCX := hid (show C = (!OB && !ps.any (fun y => X &&& ~~~ y == 0#32)) from by
            have e : ks.any (fun y => X &&& ~~~ y == 0#32) = ps.any (fun y => X &&& ~~~ y == 0#32) := by
              rw [Bool.eq_iff_iff, List.any_eq_true, List.any_eq_true]
              constructor
              · rintro ⟨y, hy, h⟩
                exact ⟨y, by have := (CO.out.done hl0 y).1 hy; rw [MEM.out] at this; simpa using this, h⟩
              · rintro ⟨y, hy, h⟩
                exact ⟨y, (CO.out.done hl0 y).2 (by rw [MEM.out]; simpa using hy), h⟩
            rw [HC.out, e])
          have OWR := hid (OWI.out.kept GI.out (.inr NR.out.2.1))
          have BWR := hid (BWI.out.trans (grow_belowM GI.out NR.out.2.2.1 (by have := BWI.out.size; omega)))
          have x0 := (GI.out.cell_far ⟨bx, 0, none⟩ (World.block_lt_of_cell? _ _ CXi.out) (by have := NR.out.1; simp; omega)).trans CXi.out
          have LOR := hid BWR.out.size
          clear hrg hLE hl0 hc0 HC CO
          cases C with
          | false =>
            have SE := hid (show unqStep ps out X = out by
              rw [ST.out]
              have h := HCX.out
              rw [Bool.and_comm] at h
              rw [← h]; simp)
            go_wp2_with fail
            go_roundw
            case rel => exact ⟨i + 1, by have := HLT.out; omega, by go_num, by rw [NX.out, SE.out]; exact OWR.out, BWR.out⟩
            case measure => have := HLT.out; simp [intOf]; omega
          | true =>
            have SE := hid (show unqStep ps out X = out ++ [X] by
              rw [ST.out]
              have h := HCX.out
              rw [Bool.and_comm] at h
              rw [← h]; simp)
            go_wp2_with (at_builtin; refine wpList_push rfl _ _ 53 rfl w4.heap.size 67 (.int .u32 0) 4 undSets infoSet rfl (by decide) enc (fun _ => rfl) _ out rfl (OWR.out.alloc _) ⟨wr.heap.size, 0, none⟩ X rfl (by simp [enc]) (by have := OLE.out; omega) (by have := LOR.out; simp; omega) ?_)
            intro v' w5 hown' hgrow
            have hb5 := below_push BWR.out (by have := LOR.out; omega) OWR.out hgrow
            have HO2 := hid (show w5.ownsRow w4.heap.size 67 1 v' (unqStep ps out X).length ((unqStep ps out X).map enc) by rw [SE.out]; simpa using hown')
            have HB5 := hid hb5
            clear hgrow hown' hb5
            go_wp2_with fail
            go_roundw
            case rel => exact ⟨i + 1, by have := HLT.out; omega, by go_num, by rw [NX.out]; exact HO2.out, HB5.out⟩
            case measure => have := HLT.out; simp [intOf]; omega
        · intro s c w5 cnt2 hls hps hrg5 hlt5 hg5 hs5 hen
          have G5 := hid (grow_trans' GI.out hg5)
          have x5 : w5.cell? ⟨bx, 0, none⟩ = some (.int .u32 (iv X)) := (G5.out.cell_far ⟨bx, 0, none⟩ (World.block_lt_of_cell? _ _ CXi.out) (by have := NR.out.1; simp; omega)).trans CXi.out
          have CO5 := hid (CO.out.next hls hps)
          have RG5 := hid hrg5
          have MS := hid (show wr.rangeLeft mb r = cnt1 ∧ w5.rangeLeft mb r = cnt2 from ⟨hLE.out, RG5.out.left_eq⟩)
          have LT5 := hid hlt5
          have E5 := hid (show (!OB && !(ks ++ [s]).any (fun y => X &&& ~~~ y == 0#32)) = (C && !(X &&& ~~~ s == 0#32)) by
            rw [HC.out, List.any_append, List.any_cons, List.any_nil]
            generalize (X &&& ~~~ s == 0#32) = p
            generalize (ks.any fun y => X &&& ~~~ y == 0#32) = q
            cases OB <;> cases p <;> cases q <;> rfl)
          clear hrg hrg5 hg5 hs5 hlt5 hls hps hLE CO HC
          cases C with
          | false =>
            have E6 := hid (show false = (!OB && !(ks ++ [s]).any (fun y => X &&& ~~~ y == 0#32)) by rw [E5.out]; rfl)
            clear E5
            go_wp2_with fail
            go_roundw
            case rel => exact ⟨_, cnt2, ks ++ [s], false, RG5, rfl, E6, CO5, G5.out⟩
            case measure => rw [MS.out.1, MS.out.2]; exact LT5.out
          | true =>
            have E6 := hid (show (X &&& ~~~ s != 0#32) = (!OB && !(ks ++ [s]).any (fun y => X &&& ~~~ y == 0#32)) by rw [E5.out]; rfl)
            clear E5
            go_wp2_with fail
            go_roundw
            case rel => exact ⟨_, cnt2, ks ++ [s], _, RG5, rfl, E6, CO5, G5.out⟩
            case measure => rw [MS.out.1, MS.out.2]; exact LT5.out
    · have hie : i = ys.length := by omega
      have OWN := hid (show wo.ownsRow w.heap.size 67 1 u3 (keyN k ps).length ((keyN k ps).map enc) from by
        rw [hie, List.take_length, KY.out] at hown
        exact own_mono hown B4.out.size)
      have BF := hid (B4.out.trans (hnx.mono B4.out.size))
      clear hown hnx
      go_wp2_with fail
      go_ret
      exact ⟨_, rfl, OWN.out, BF.out⟩

end Go.Proofs.YtdiafhbbmliefaaGreatDoor


/- The comparison of State.Agree. -/
namespace Go.Proofs.YtdiafhbbmliefaaGreatDoor
open Go.RowKit Go.Shelf Go.Lib Go.Sort
set_option linter.unusedVariables false

/-- A world with draws and blocks behind another one. -/
def GrD (w W : World) : Prop := ∃ q os, W = Sort.grow (w.drewN q) os
theorem GrD.refl (w : World) : GrD w w := ⟨0, #[], by simp [Sort.grow, World.drewN]⟩
theorem GrD.drewN {w W : World} (h : GrD w W) (n : Nat) : GrD w (W.drewN n) := by
  obtain ⟨q, os, rfl⟩ := h
  exact ⟨q + n, os, by simp [Sort.grow, World.drewN, Nat.add_assoc]⟩
theorem GrD.drew {w W : World} (h : GrD w W) : GrD w W.drew := h.drewN 1
theorem GrD.trans {u v w : World} (h : GrD u v) (k : GrD v w) : GrD u w := by
  obtain ⟨q, os, rfl⟩ := h
  obtain ⟨r, pt, rfl⟩ := k
  exact ⟨q + r, os ++ pt, by
    rw [← Sort.grow_grow]
    simp [Sort.grow, World.drewN, Nat.add_assoc]⟩
theorem GrD.alloc {w W : World} (h : GrD w W) (o : Obj) : GrD w (W.alloc o) := by
  obtain ⟨q, os, rfl⟩ := h
  exact ⟨q, os ++ #[o], by rw [Sort.alloc_eq_grow, Sort.grow_grow]⟩

set_option maxHeartbeats 6400000 in
set_option maxRecDepth 100000 in
theorem agree1_any (x y : C2) (w : World) :
    Calls Tryz.prog 49 #[.agg (cC x).toArray, .agg (cC y).toArray] w fun e w' => e = .returned (.int .i64 (cmpS x.1 y.1)) ∧ ∃ q os, w' = Sort.grow (w.drewN q) os := by
  obtain ⟨a, n⟩ := x
  obtain ⟨b, m⟩ := y
  show Calls Tryz.prog 49 #[.agg #[enc a, .int .i64 n], .agg #[enc b, .int .i64 m]] w fun e w' => e = .returned (.int .i64 (cmpS a b)) ∧ GrD w w'
  have C1 := hid (fun w => asize_any a w)
  have C2 := hid (fun w => asize_any b w)
  have C3 := hid (fun w => cmpInt_any (pop a : Nat) (pop b : Nat) w)
  have C4 := hid (fun w => cmpSet_any a b w)
  have e : cmpS a b = if cmpI (pop a) (pop b) ≠ 0 then cmpI (pop a) (pop b) else cmpI (iv a) (iv b) := rfl
  have C5 := hid (or_any (cmpI (pop a) (pop b)) (cmpI (iv a) (iv b)))
  rw [← e] at C5
  clear e
  unfold enc at *
  generalize cmpS a b = r at *
  generalize cmpI (pop a) (pop b) = x at *
  generalize cmpI (iv a) (iv b) = y at *
  have b1 := below_alloc w (.cells #[.int .u32 (iv a), .int .i64 n] 95)
  obtain ⟨e0, e1⟩ := cells2 (w := w) (a := .int .u32 (iv a)) (b := .int .i64 n) (t := 95) _ (Below.refl _ _)
  have s1 : (w.alloc (.cells #[.int .u32 (iv a), .int .i64 n] 95)).heap.size = w.heap.size + 1 := by simp
  obtain ⟨w1, hw1⟩ : ∃ w1 : World, w.alloc (.cells #[.int .u32 (iv a), .int .i64 n] 95) = w1 := ⟨_, rfl⟩
  have g1 : GrD w w1 := by rw [← hw1]; exact (GrD.refl w).alloc _
  rw [hw1] at b1 e0 e1 s1
  have b2 := below_alloc w1 (.cells #[.int .u32 (iv b), .int .i64 m] 95)
  obtain ⟨f0, f1⟩ := cells2 (w := w1) (a := .int .u32 (iv b)) (b := .int .i64 m) (t := 95) _ (Below.refl _ _)
  obtain ⟨w0, hw0⟩ : ∃ w0 : World, w1.alloc (.cells #[.int .u32 (iv b), .int .i64 m] 95) = w0 := ⟨_, rfl⟩
  have g0 := hid (show GrD w w0 by rw [← hw0]; exact g1.alloc _)
  rw [hw0] at b2 f0 f1
  rw [s1] at f0 f1
  replace e0 := (b2.cell (p := ⟨w.heap.size, 0, none⟩) (by show w.heap.size < _; omega)).trans e0
  replace e1 := (b2.cell (p := ⟨w.heap.size, 1, none⟩) (by show w.heap.size < _; omega)).trans e1
  have W0 := hid (show (w.alloc (.cells #[.int .u32 (iv a), .int .i64 n] 95)).alloc (.cells #[.int .u32 (iv b), .int .i64 m] 95) = w0 by rw [hw1, hw0])
  clear b1 b2 s1 hw1 hw0 g1
  have HS := hid (fun (W : World) (h : GrD w0 W) => show GrD w0 W ∧ W.cell? ⟨w.heap.size, 0, none⟩ = some (.int .u32 (iv a)) ∧ W.cell? ⟨w.heap.size + 1, 0, none⟩ = some (.int .u32 (iv b)) from by
    refine ⟨h, ?_, ?_⟩
    · obtain ⟨q, os, rfl⟩ := h
      exact cell_grown (a := ⟨w.heap.size, 0, none⟩) (World.block_lt_of_cell? _ _ e0) e0 q os
    · obtain ⟨q, os, rfl⟩ := h
      exact cell_grown (a := ⟨w.heap.size + 1, 0, none⟩) (World.block_lt_of_cell? _ _ f0) f0 q os)
  go_enter Tryz.func49, Tryz.ntmps49
  go_upto_region 1 with fail
  rw [W0.out]
  go_region_held3 (fun W => GrD w0 W ∧ W.cell? ⟨w.heap.size, 0, none⟩ = some (.int .u32 (iv a)) ∧ W.cell? ⟨w.heap.size + 1, 0, none⟩ = some (.int .u32 (iv b)))
    (first | exact HS.out _ (GrD.refl _).drew | exact HS.out _ ((GrD.refl _).drewN _) | exact HS.out _ (by assumption) | exact HS.out _ (GrD.alloc (by assumption) _) | exact HS.out _ (GrD.drew (by assumption)))
    (first
      | (go_at_call 52; have hS := And.left ‹GrD w0 _ ∧ _ ∧ _›; with_reducible refine (C1.out _).mono ?_; rintro e w' ⟨rfl, q1, rfl⟩; have hL1 := hS.drewN q1; generalize World.drewN _ q1 = wa at *; clear hS)
      | (go_at_call 52; have hS := And.left ‹GrD w0 _ ∧ _ ∧ _›; with_reducible refine (C2.out _).mono ?_; rintro e w' ⟨rfl, q2, rfl⟩; have hL2 := hS.drewN q2; generalize World.drewN _ q2 = wb at *; clear hS)
      | (go_at_call 51; refine (C3.out _).mono ?_; rintro e w' ⟨rfl, rfl⟩)
      | (go_at_call 53; refine (C4.out _).mono ?_; rintro e w' ⟨rfl, rfl⟩)
      | (go_at_call 50; refine (C5.out _ _ (cell_two (t := 3)).1 (cell_two (t := 3)).2).mono ?_; rintro e w' ⟨rfl, rfl⟩))
  all_goals
    have HG := hid ((g0.out.trans hL2).alloc (.cells #[.int .i64 x, .int .i64 y] 3))
    clear hL2
    go_wp2_with fail
    go_ret
    exact ⟨rfl, HG.out⟩

end Go.Proofs.YtdiafhbbmliefaaGreatDoor


/- slices.SortFunc over a slice of counts of the call's own: the row holds a sorted list of the same counts. -/
namespace Go.Proofs.YtdiafhbbmliefaaGreatDoor
open Go.RowKit Go.Shelf Go.Lib Go.Sort
set_option linter.unusedVariables false

theorem cC_length2 (x : C2) : (cC x).length = 2 := rfl
theorem cC_one2 (x : C2) : ∀ v ∈ cC x, v.oneCell' = true := by intro v hv; simp [cC] at hv; rcases hv with rfl | rfl <;> rfl
theorem flatK_cC (xs : List C2) : flatK cC 2 xs.toArray = (xs.flatMap cC).toArray := by
  have hfl := flat_length cC_length2 xs
  apply ext_get!
  · simp [hfl]
  · intro t ht
    rw [size_flatK] at ht
    rw [get_flatK _ _ _ _ ht]
    have ht2 : t < xs.length * 2 := by simpa using ht
    have hi : t / 2 < xs.length := by omega
    have hx : xs[t / 2]? = some xs[t / 2] := List.getElem?_eq_getElem hi
    have hj : t % 2 < 2 := Nat.mod_lt _ (by decide)
    have hu : (cC xs[t / 2])[t % 2]? = some ((cC xs[t / 2])[t % 2]'(by rw [cC_length2]; exact hj)) := List.getElem?_eq_getElem _
    have h1 := flat_at cC_length2 xs (t / 2) _ (t % 2) _ hx hu
    rw [show t / 2 * 2 + t % 2 = t by omega] at h1
    have h2 : (xs.flatMap cC).toArray[t]! = (cC xs[t / 2])[t % 2]'(by rw [cC_length2]; exact hj) := by
      have h3 := List.getElem?_eq_some_iff.1 h1
      rw [getElem!_pos _ _ (by simpa using h3.1)]
      simpa using h3.2
    have h4 : xs.toArray[t / 2]! = xs[t / 2] := by rw [getElem!_pos _ _ (by simpa using hi)]; simp
    rw [h2, h4, getElem!_pos _ _ (by rw [cC_length2]; exact hj)]
theorem row_owns2 {w : World} {base g cap n m : Nat} {e : TypeId} {os : Array Obj} {cur : Array Value} {ts : List Value} (hl : ts.length = m * 2) (hbase : base ≤ g) (hb : w.heap[g]? = some (.cells cur e (0, 0)))
    (h1 : m ≤ cap) (h2 : cap ≤ maxLen) (h3 : cur.size = cap * 2) :
    (grow (putRow id (Sort.ahead w n) g 0 ts.toArray) os).ownsRow base e 2 (.slice (some ⟨g, 0, none⟩) m cap) m ts :=
  ⟨hl, .inr ⟨g, cap, _, rfl, hbase, row_heap _ hb, h1, h2, by simp [putCells, h3], by
    rw [← hl]
    have := row_take (f := id) cur ts (by omega)
    rwa [List.map_id] at this⟩⟩

set_option maxHeartbeats 1600000 in
theorem sortCt_any (xs : List C2) (hnd : (xs.map Prod.fst).Nodup) (v : Value) (B : Nat) (w : World) (hown : w.ownsRow B 95 2 v xs.length (xs.flatMap cC)) (hl : xs.length ≤ 1000000) :
    Calls Tryz.prog 48 #[v, .func (.func 49) #[] #[]] w fun e w' =>
      e = .returned (.tuple #[]) ∧ ∃ ys : List C2, ys.Perm xs ∧ (ys.map Prod.fst).Pairwise bef ∧ w'.ownsRow B 95 2 v xs.length (ys.flatMap cC) ∧ Below B w w' := by
  rcases hown.2 with ⟨rfl, hn⟩ | ⟨g, cap, cur, rfl, hB, hg, hnc, hcm, hcs, htake⟩
  · have hx : xs = [] := List.eq_nil_of_length_eq_zero hn
    subst hx
    refine (AnyF.slices_SortFunc_none Tryz.sortCt none 0 _ w).mono fun e w' ⟨he, hw⟩ => ?_
    subst hw
    exact ⟨he, [], List.Perm.refl _, List.Pairwise.nil, hown, Below.refl _ _⟩
  · have hfl := flat_length cC_length2 xs
    have hlt : g < w.heap.size := (Array.getElem?_eq_some_iff.1 hg).1
    have hH : HoldsK cC 2 w g 0 xs.toArray := by
      unfold HoldsK
      rw [flatK_cC]
      exact holds_row (f := id) hg (by rw [hfl, htake, List.map_id])
    have swo : SWO (ltOf (fun x y : C2 => cmpS x.1 y.1)) := {
      irrefl := fun x => swoS.irrefl x.1
      trans := fun x y z => swoS.trans x.1 y.1 z.1
      ntrans := fun x y z => swoS.ntrans x.1 y.1 z.1 }
    have h := AnyQ.slices_SortFunc Tryz.sortCt 2 (fun w => by kernel_rfl) (fun w => by kernel_rfl) cC cC_length2 cC_one2 (fun x y : C2 => cmpS x.1 y.1) swo 49 #[] g 0 cap xs.toArray w
      (enters _ _ _ Tryz.func49 (by kernel_rfl) rfl) (fun m os dk hs x y => agree1_any x y _) hH hlt (by simp; omega)
    have h' : Calls Tryz.prog 48 #[.slice (some ⟨g, 0, none⟩) xs.length cap, .func (.func 49) #[] #[]] w _ := h
    refine h'.mono fun e w' ⟨he, d', n, os, hp, hs, hw⟩ => ?_
    have hsz : d'.size = xs.length := by have := hp.1; simpa using this
    have hperm : d'.toList.Perm xs := by
      have h1 := hp.2.2
      have e1 : d'.extract 0 xs.toArray.size = d' := by rw [← hp.1]; exact Array.extract_size
      rw [e1, Array.extract_size] at h1
      simpa using h1
    refine ⟨he, d'.toList, hperm, ?_, ?_, ?_⟩
    · have hnd' : (d'.toList.map Prod.fst).Nodup := (hperm.map Prod.fst).nodup_iff.2 hnd
      rw [List.pairwise_iff_getElem]
      intro i j hi hj hij
      simp only [List.length_map, Array.length_toList] at hi hj
      have h1 := hs i j (Nat.zero_le _) hij (by simpa [hsz] using hj)
      rw [getElem!_pos d' j (by omega), getElem!_pos d' i (by omega)] at h1
      have h2 : ¬ bef (d'[j].1) (d'[i].1) := by
        have := h1
        rw [show ltOf (fun x y : C2 => cmpS x.1 y.1) d'[j] d'[i] = ltOf cmpS d'[j].1 d'[i].1 from rfl, lt_cmpS] at this
        simpa using this
      have h3 : d'[i].1 ≠ d'[j].1 := by
        have := List.pairwise_iff_getElem.1 hnd' i j (by simpa using hi) (by simpa using hj) hij
        simpa using this
      have h4 : bef (d'[i].1) (d'[j].1) := Classical.byContradiction fun h => h3 (bef_total h h2)
      simpa using h4
    · rw [hw]
      unfold sortWorldK putRowK
      have : flatK cC 2 d' = (d'.toList.flatMap cC).toArray := by have := flatK_cC d'.toList; simpa using this
      rw [this]
      exact row_owns2 (by rw [flat_length cC_length2, Array.length_toList, hsz]) hB hg hnc hcm hcs
    · rw [hw]
      unfold sortWorldK putRowK
      exact (Below.refl B w).grown (row_grown _) (by omega) (fun k hk => by cases hk; exact hB)

end Go.Proofs.YtdiafhbbmliefaaGreatDoor


/- The walk of State.Agree. -/
namespace Go.Proofs.YtdiafhbbmliefaaGreatDoor
open Go.RowKit
set_option linter.unusedVariables false

theorem cnt_uniq {ps : List S} {ys : List C2} (hp : (ys.map Prod.fst).Pairwise bef) (hm : ∀ s, s ∈ ys.map Prod.fst ↔ s ∈ ps) (hc : ∀ y ∈ ys, y.2 = (ps.count y.1 : Int)) : ys = cntL ps := by
  have h1 : ys.map Prod.fst = ordS ps := ordS_of (p := fun s => s ∈ ys.map Prod.fst) ⟨hp, fun _ => Iff.rfl⟩ hm
  have h2 : ys = (ys.map Prod.fst).map fun s => (s, (ps.count s : Int)) := by
    rw [List.map_map]
    conv => lhs; rw [← List.map_id ys]
    refine List.map_congr_left fun y hy => ?_
    have := hc y hy
    show y = (y.1, (ps.count y.1 : Int))
    rw [← this]
  rw [h2, h1]; rfl

set_option maxHeartbeats 6400000 in
set_option maxRecDepth 100000 in
theorem magree_any2 (b mb n : Nat) (ps : List S) (w : World) (hc3 : w.cell? ⟨b, 3, none⟩ = some (.map (some mb))) (ho : OwnC w mb n (cntF ps) (memB ps)) (hpl : ps.length ≤ 40000) :
    Calls Tryz.prog 21 #[.pointer (some ⟨b, 0, none⟩)] w fun e w' => ∃ v', e = .returned v' ∧ w'.ownsRow w.heap.size 95 2 v' (cntL ps).length ((cntL ps).flatMap cC) ∧ Below w.heap.size w w' := by
  have hlt := ho.lt
  have XM := hid ho
  have SO := hid (fun (xs : List C2) (h : (xs.map Prod.fst).Nodup) (v : Value) (B : Nat) (W : World) (h1 : W.ownsRow B 95 2 v xs.length (xs.flatMap cC)) (h2 : xs.length ≤ 1000000) => sortCt_any xs h v B W h1 h2)
  have MEM := hid (show ∀ s, memB ps s = decide (s ∈ ps) from fun _ => rfl)
  have CNT := hid (show ∀ s, cntF ps s = ps.count s from fun _ => rfl)
  obtain ⟨mp, hmp⟩ : ∃ mp, memB ps = mp := ⟨_, rfl⟩
  obtain ⟨cp, hcp⟩ : ∃ cp, cntF ps = cp := ⟨_, rfl⟩
  rw [hmp] at MEM XM
  rw [hcp] at CNT XM
  have HPL := hid hpl
  clear ho hmp hcp hpl
  go_enter Tryz.func21, Tryz.ntmps21
  go_wp2_with (at_range; refine wpList_krange (E := cntElems Tryz.prog 2 undI64) (z := 0) (k := 67) rfl _ 75 rfl undU32 undMapC rfl XM.out ?_; intro wi cnt hrg hcn hbi hsi)
  go_frame
  have HM := hid hlt
  have HC3 := hid hc3
  have GB := hid (show ∀ s, capN (cp s) = cp s from fun s => capN_eq (by rw [CNT.out]; have := List.count_le_length (a := s) (l := ps); have := HPL.out; omega))
  have HSI := hid (show wi.heap.size = w.heap.size + 1 from hsi)
  have ST := hid (And.intro hrg hbi)
  obtain ⟨r, hr⟩ : ∃ r, w.heap.size = r := ⟨_, rfl⟩
  have HR := hid hr
  clear hrg hbi hlt hc3 hsi
  rw [hr]
  rw [hr] at ST HSI HM
  clear hr
  go_loopw [3] (fun u wr => ∃ (left : S → Bool) (cnt : Nat) (ks : List S), RngC wr mb r n cp mp left cnt ∧ wr.ownsRow (r + 1) 95 2 u (ks.map fun s => (s, (cp s : Int))).length ((ks.map fun s => (s, (cp s : Int))).flatMap cC) ∧ Hid (Coll mp left ks) ∧ Below r w wr ∧ r + 1 ≤ wr.heap.size) (fun _ wr => wr.rangeLeft mb r)
  case atStart => exact ⟨mp, cnt, [], ST.out.1, World.ownsRow_nil _ _ _ _, hid (Coll.start mp), ST.out.2, by have := HSI.out; omega⟩
  case round =>
    obtain ⟨left, cnt1, ks, hrg, hl, CL, hnx, hsz⟩ := hrel
    have hLE := hid hrg.left_eq
    have KS := hid (show ks.length ≤ 40000 by
      have h1 := nodup_length CL.out.nodup (fun s hs => by have h2 := ((CL.out.mem s).1 hs).1; rw [MEM.out] at h2; simpa using h2 : ∀ s ∈ ks, s ∈ ps)
      have := HPL.out; omega)
    obtain ⟨xs, hxs⟩ : ∃ xs, (ks.map fun s => (s, (cp s : Int))) = xs := ⟨_, rfl⟩
    rw [hxs] at hl
    have XS := hid hxs
    have XL := hid (show xs.length ≤ 40000 by rw [← hxs, List.length_map]; exact KS.out)
    clear hxs
    obtain ⟨uo, ucap, rfl, -⟩ := RdC.of_owns cC_length2 hl (by have := XL.out; omega)
    go_wp2_with (at_next; refine wpList_knextv (E := cntElems Tryz.prog 2 undI64) (z := 0) (k := 67) rfl _ rfl undU32 rfl hrg ?_ ?_)
    · intro hc0 hl0
      have hmem : ∀ s, s ∈ ks ↔ s ∈ ps := fun s => by rw [CL.out.done hl0, MEM.out]; simp
      have FST := hid (show xs.map Prod.fst = ks by rw [← XS.out, List.map_map]; exact List.map_id ks)
      have SRT := hid (SO.out xs (by rw [FST.out]; exact CL.out.nodup) _ (r + 1) wr hl (by have := XL.out; omega))
      have FIN := hid (fun (ys : List C2) (hp : ys.Perm xs) (hb : (ys.map Prod.fst).Pairwise bef) => show ys = cntL ps from cnt_uniq hb (fun s => by
        rw [(hp.map Prod.fst).mem_iff, FST.out]; exact hmem s) (fun y hy => by
        have h1 := hp.mem_iff.1 hy
        rw [← XS.out] at h1
        obtain ⟨s, hs, rfl⟩ := List.mem_map.1 h1
        show ((cp s : Nat) : Int) = _
        rw [CNT.out]))
      have HN := hid hnx
      have HSZ := hid hsz
      clear hl0 hmem hrg hl hnx hLE hsz
      go_wp2_with fail
      refine SRT.out.mono ?_
      rintro e w4 ⟨rfl, ys, hp, hb, hown, hb4⟩
      have hys := FIN.out ys hp hb
      have hlen : xs.length = (cntL ps).length := by rw [← hys]; exact hp.length_eq.symm
      rw [hys, hlen] at hown
      have OO := hid (own_mono hown (show r ≤ r + 1 by omega))
      have BB := hid (HN.out.trans (hb4.mono (by omega : r ≤ r + 1)))
      have XE := hid hlen
      clear hown hb4 hp hb hys hlen
      go_wp2_with fail
      go_ret
      exact ⟨_, rfl, by rw [HR.out, XE.out]; exact OO.out, by rw [HR.out]; exact BB.out⟩
    · intro s w4 cnt2 hls hps hrg4 hlt4 hg4 hs4 hen
      have GS := hid (GB.out s)
      have hl4 := own_grown2 hl hg4 (by omega)
      have hnx4 : Below r w w4 := hnx.grown hg4 (by have := HR.out; omega) (fun j hj => by cases hj; exact Nat.le_refl _)
      have CL4 := hid (CL.out.next hls hps)
      have RG4 := hid hrg4
      have hsz4 : r + 1 ≤ w4.heap.size := by omega
      have NX := hid (show ((ks ++ [s]).map fun s => (s, (cp s : Int))) = xs ++ [(s, (cp s : Int))] by rw [List.map_append, XS.out]; rfl)
      have GE : (cntElems Tryz.prog 2 undI64).el (cp s) = .int .i64 (cp s : Int) := by rw [← GS.out]; rfl
      rw [GE] at hen ⊢
      clear hl hnx hrg hg4 hrg4 hs4 GE
      go_wp2_with (at_builtin; refine wpList_pushC rfl _ _ 56 rfl (r + 1) 95 (.agg #[.int .u32 0, .int .i64 0]) 2 16 undCts infoCt rfl (by decide) (by decide) cC cC_length2 cC_one2 _ xs rfl (hl4.alloc _) ⟨w4.heap.size, 0, none⟩ (s, (cp s : Int)) rfl (cells_newC _ (s, (cp s : Int))) (by have := XL.out; omega) (by simp; omega) ?_)
      intro v' w5 hown5 hgrow
      have RG5 := hid ((RG4.out.below (below_alloc w4 _)).kept hgrow (fun e => by have := (hl4.lt _ e.symm).1; have := HM.out; omega) (fun e => by have := (hl4.lt _ e.symm).1; omega))
      have hb5 := hid (below_push hnx4 (by omega) (own_mono hl4 (by omega)) hgrow)
      have OW5 := hid hown5
      have SZ5 := hid (show r + 1 ≤ w5.heap.size by have := hgrow.size; simp at this; omega)
      have MS := hid (show wr.rangeLeft mb r = cnt1 ∧ w5.rangeLeft mb r = cnt2 from ⟨hLE.out, RG5.out.left_eq⟩)
      have LT5 := hid hlt4
      clear hl4 hnx4 hgrow hown5 hen hLE hlt4 hls hps hsz4
      go_wp2_with fail
      go_roundw
      case rel => exact ⟨_, cnt2, ks ++ [s], RG5.out, by rw [NX.out]; simpa using OW5.out, CL4, hb5.out, SZ5.out⟩
      case measure => rw [MS.out.1, MS.out.2]; exact LT5.out

end Go.Proofs.YtdiafhbbmliefaaGreatDoor


/- The walk of drossref33.Names. -/
namespace Go.Proofs.YtdiafhbbmliefaaGreatDoor
open Go.RowKit
set_option linter.unusedVariables false

def litN : Array Value := #[.string (ByteArray.mk #[97]), .string (ByteArray.mk #[98]), .string (ByteArray.mk #[99]), .string (ByteArray.mk #[100]), .string (ByteArray.mk #[101]), .string (ByteArray.mk #[102]), .string (ByteArray.mk #[103]), .string (ByteArray.mk #[104])]
theorem lit_src (w : World) {n : Nat} (hn : n ≤ 8) : ∀ (j : Nat) (u : Value), ((nameN n).map encT)[j]? = some u → (w.alloc (.cells litN 9)).cell? ((⟨w.heap.size, 0, none⟩ : Addr).add j) = some u := fun j u hu => by
  have h := RdE.lit (f := encT) w (nameN 8) 9 (by decide)
  obtain ⟨ao8, cap8, e8, -, -, h38⟩ := h
  simp only [Value.slice.injEq] at e8
  obtain ⟨rfl, -, rfl⟩ := e8
  obtain ⟨b8, off8, e8', hb8, hc8⟩ := h38 (by decide)
  cases e8'
  rw [List.getElem?_map, Option.map_eq_some_iff] at hu
  obtain ⟨x, hx, rfl⟩ := hu
  have hj : j < n := by have := (List.getElem?_eq_some_iff.1 hx).1; rw [nameN_length hn] at this; exact this
  have hx8 : (nameN 8)[j]? = some x := by
    unfold nameN at hx ⊢
    rw [List.getElem?_take_of_lt hj] at hx
    rw [List.getElem?_take_of_lt (by omega)]; exact hx
  rw [Addr.add_lit]
  exact hc8 j x hx8

set_option maxHeartbeats 3200000 in
set_option maxRecDepth 100000 in
theorem mnames_any (n : Nat) (w : World) (hn : n ≤ 8) :
    Calls Tryz.prog 6 #[.int .i64 (n : Int)] w fun e w' => ∃ v', e = .returned v' ∧ RdE encT w' v' (nameN n) ∧ Below w.heap.size w w' := by
  have n0 : (0 : Int) ≤ (n : Int) := by omega
  have n8 : (n : Int) ≤ 8 := by omega
  have HC8 := hid (fun W => lit_src W hn)
  have S1 := hid (show ∀ u ∈ (nameN n).map encT, u.oneCell' = true by intro u hu; obtain ⟨x, _, rfl⟩ := List.mem_map.1 hu; rfl)
  have NL := hid (nameN_length hn)
  have hx0 : (w.alloc (.cells #[] 9)).heap.size = w.heap.size + 1 := by simp
  have hown0 := (World.ownsRow_lit (size := 1) (e := 9) w #[] 0 (Nat.le_refl _) (Nat.zero_le _) rfl).alloc (.cells litN 9)
  have HL := hid (HC8.out (w.alloc (.cells #[] 9)))
  rw [hx0] at HL
  unfold litN at hown0 HL
  obtain ⟨ii, hii, hz0, hz1, hz2⟩ := info_parts infoStr
  go_enter Tryz.func6, Tryz.ntmps6
  go_wp2_with (at_builtin; go_must (refine wpList_append_own _ rfl _ _ 28 rfl w.heap.size 9 ii (.string (ByteArray.mk #[])) 1 16 undStrs hii hz0 hz1 hz2 rfl (by decide) _ _ _ rfl hown0 ⟨w.heap.size + 1, 0, none⟩ n 8 ((nameN n).map encT) rfl (by rw [List.length_map, NL.out]; omega) HL.out S1.out (by unfold maxLen; omega) (by omega) (by simp; omega) ?_))
  intro v2 w2 hown2 hg2 _
  have hb2 : Below w.heap.size w w2 := (((Below.refl _ _).alloc (Nat.le_refl _) _).alloc (by simp) _).grown hg2 (by simp; omega) (fun j hj => by simp [Value.ownBlock] at hj; omega)
  have B2 := hid hb2
  have AV := hid (show RdE encT w2 v2 (nameN n) from RdE.of_owns (by rw [NL.out]; exact hown2) (by rw [NL.out]; omega))
  clear hb2 hg2 hown2 hown0 HL hx0 hii hz0 hz1 hz2
  go_wp2_with fail
  go_ret
  exact ⟨_, rfl, AV.out, B2.out⟩

end Go.Proofs.YtdiafhbbmliefaaGreatDoor

