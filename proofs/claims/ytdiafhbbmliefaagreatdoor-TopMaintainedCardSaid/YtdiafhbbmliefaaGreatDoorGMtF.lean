/- Texts that belong together, in one file. -/
import Derived.Test.YtdiafhbbmliefaaGreatDoorGMtE
/- The walk of State.Insert. -/
namespace Go.Proofs.YtdiafhbbmliefaaGreatDoor
open Go.RowKit
set_option linter.unusedVariables false

theorem zcells {w w2 : World} (hb : Below ((w.drewN 1).alloc (.cells #[.string (ByteArray.mk #[]), .slice none 0 0, .slice none 0 0] 48)).heap.size ((w.drewN 1).alloc (.cells #[.string (ByteArray.mk #[]), .slice none 0 0, .slice none 0 0] 48)) w2) :
    w2.cell? ⟨w.heap.size, 0, none⟩ = some (.string (ByteArray.mk #[])) ∧ w2.cell? ⟨w.heap.size, 1, none⟩ = some (.slice none 0 0) ∧ w2.cell? ⟨w.heap.size, 2, none⟩ = some (.slice none 0 0) ∧ ∀ j, w2.frozen? ⟨w.heap.size, j, none⟩ = false := by
  obtain ⟨z0, z1, z2⟩ := cells3 (w := w.drewN 1) (a := .string (ByteArray.mk #[])) (b := .slice none 0 0) (c := .slice none 0 0) (t := 48) w2 hb
  exact ⟨z0, z1, z2, fun j => (hb.frozen (p := ⟨w.heap.size, j, none⟩) (by simp)).trans (World.frozen?_alloc_new (w.drewN 1) _ _ j)⟩
/-- The validity of the changed rows. -/
theorem ins_valid {nm : ByteArray} {ats : List ByteArray} {rs rs' : List Row3} {id : Int} {ys : List V3} (hE : tabE (nm, ats, rs) = 0) (hl : rs.length ≤ 900) (hR : insR rs ats.length id ys rs') : tabE (nm, ats, rs') = 0 := by
  obtain ⟨a, b, u', hcp, rfl, ha, hb, h0, hyl, hbad⟩ := hR
  obtain ⟨-, -, -, -, hrow⟩ := tabE_iff.1 hE
  obtain ⟨hasc, hvals⟩ := rowsE_iff.1 hrow
  have hids := hcp.ids
  have hlen := hcp.len
  have hv : ∀ r ∈ a ++ b, r.2.2.length = ats.length ∧ r.2.2.any badV = false := by
    intro r hr
    have h1 : (r.1, r.2.2) ∈ (a ++ b).map (fun r => (r.1, r.2.2)) := List.mem_map.2 ⟨r, hr, rfl⟩
    rw [hcp] at h1
    obtain ⟨q, hq, e⟩ := List.mem_map.1 h1
    have e2 := congrArg Prod.snd e
    simp only at e2
    rw [← e2]; exact hvals q hq
  refine tabE_rowsM hE (by rw [List.length_append, List.length_cons]; rw [List.length_append] at hlen; show _ ≤ _; omega) (rowsE_iff.2 ⟨?_, ?_⟩)
  · have h1 : (0 :: (a ++ b).map (·.1)).Pairwise (· < ·) := by rw [hids]; exact hasc
    rw [List.map_append, List.pairwise_cons, List.pairwise_append] at h1
    obtain ⟨p0, p1, p2, p3⟩ := h1
    rw [List.map_append, List.map_cons, List.pairwise_cons, List.pairwise_append, List.pairwise_cons]
    refine ⟨fun x hx => ?_, p1, ⟨fun x hx => ?_, p2⟩, fun x hx y hy => ?_⟩
    · rcases List.mem_append.1 hx with h | h
      · exact p0 x (List.mem_append_left _ h)
      · rcases List.mem_cons.1 h with rfl | h
        · exact h0
        · exact p0 x (List.mem_append_right _ h)
    · obtain ⟨r, hr, rfl⟩ := List.mem_map.1 hx
      exact hb r hr
    · rcases List.mem_cons.1 hy with rfl | h
      · obtain ⟨r, hr, rfl⟩ := List.mem_map.1 hx
        exact ha r hr
      · exact p3 x hx y h
  · intro r hr
    rcases List.mem_append.1 hr with h | h
    · exact hv r (List.mem_append_left _ h)
    · rcases List.mem_cons.1 h with rfl | h
      · exact ⟨hyl, hbad⟩
      · exact hv r (List.mem_append_right _ h)
theorem ins_num {rs rs' : List Row3} {m : Nat} {id : Int} {ys : List V3} (hN : NumR rs) (hy : ∀ x ∈ ys, -9223372036854775808 ≤ x.2.1 ∧ x.2.1 < 9223372036854775808) (hR : insR rs m id ys rs') : NumR rs' := by
  obtain ⟨a, b, u', hcp, rfl, -⟩ := hR
  have hv : ∀ r ∈ a ++ b, ∀ x ∈ r.2.2, -9223372036854775808 ≤ x.2.1 ∧ x.2.1 < 9223372036854775808 := by
    intro r hr
    have h1 : (r.1, r.2.2) ∈ (a ++ b).map (fun r => (r.1, r.2.2)) := List.mem_map.2 ⟨r, hr, rfl⟩
    rw [hcp] at h1
    obtain ⟨q, hq, e⟩ := List.mem_map.1 h1
    have e2 := congrArg Prod.snd e
    simp only at e2
    rw [← e2]; exact hN q hq
  intro r hr
  rcases List.mem_append.1 hr with h | h
  · exact hv r (List.mem_append_left _ h)
  · rcases List.mem_cons.1 h with rfl | h
    · exact hy
    · exact hv r (List.mem_append_right _ h)

set_option maxHeartbeats 12800000 in
set_option maxRecDepth 100000 in
theorem minsert_any (b mb N : Nat) (nm : ByteArray) (ats : List ByteArray) (id : Int) (u : Value) (ys : List V3) (w : World) (hst : St b mb N nm ats w) (hu : RdV w u ys) (hfu : ∀ j, j = b ∨ j = mb → FarV u (some j)) (hyl : ys.length ≤ 1000)
    (hyn : ∀ x ∈ ys, -9223372036854775808 ≤ x.2.1 ∧ x.2.1 < 9223372036854775808) (hk : ats.length ≤ 6) (hN16 : N ≤ 16) :
    Calls Tryz.prog 10 #[.pointer (some ⟨b, 0, none⟩), .agg #[.int .i64 id, u]] w (StQ b mb (N + 1) nm ats w) := by
  have HST := hid hst
  obtain ⟨av, rv, fv, dv, ev, rs, ps, xs, n, hS, hne, hT, hF, hE, hN, hl, hO, hn, hp, hx, hxl, hf⟩ := hst
  obtain ⟨ao, acap, hva, -⟩ := hT.1.split
  obtain ⟨ro, rcap, hvr, -⟩ := RdR.split hT.2
  simp only at hva hvr
  subst hva hvr
  have hML := fds_len (ps := ps) hk hxl
  obtain ⟨MM, hMM⟩ : ∃ MM, minO (qB ats.length ps) ats.length xs xs.length = MM := ⟨_, rfl⟩
  rw [hMM] at hf hML
  have HML := hid hML
  have hf2 := hf
  obtain ⟨fo, fcap, hfv, -⟩ := hf2
  subst hfv
  obtain ⟨uo, ucap, rfl, -⟩ := RdV.split hu
  have blt := hS.lt
  have mlt := hO.lt
  have hb0 := below_alloc w (.cells #[.int .i64 id, .slice uo ys.length ucap] 44)
  have C2 := hid (fun W h => cells2 (w := w) (a := .int .i64 id) (b := .slice uo ys.length ucap) (t := 44) W h)
  obtain ⟨w0, hw0⟩ : ∃ w0 : World, w.alloc (.cells #[.int .i64 id, .slice uo ys.length ucap] 44) = w0 := ⟨_, rfl⟩
  rw [hw0] at hb0 C2
  have hs0 : w0.heap.size = w.heap.size + 1 := by rw [← hw0]; simp
  have W0 := hid hw0
  have B0 := hid hb0
  have S0 := hid (hS.below hb0)
  have T0 := hid (hT.below hb0)
  have U0 := hid (RdC.below hu hb0)
  have HS0 := hid hs0
  have SK := hid (fun (W : World) (h : Below w0.heap.size w0 W) => S0.out.below h)
  have IN := hid (fun (W : World) (h : Below w0.heap.size w0 W) => (tinsert_any (nm, ats, rs) (.slice ao ats.length acap) (.slice ro rs.length rcap) (.slice uo ys.length ucap) id ys W (T0.out.below h) (RdC.below U0.out h) hE (show rs.length ≤ 900 by omega) hyl).mono fun e w' h => h.res)
  have HF := hid hF
  have HE := hid hE
  have HN := hid hN
  have HL := hid hl
  have HO := hid (hO.below hb0)
  have HNN := hid hn
  have HP := hid hp
  have HFD := hid (RdC.below hf hb0)
  have HK := hid hk
  have HXL := hid hxl
  have HNE := hid hne
  have HYN := hid hyn
  have HFU := hid hfu
  have HN16 := hid hN16
  have BLT := hid blt
  have MLT := hid mlt
  obtain ⟨c0, c1, c2, c3, c4, c5, c6, cf⟩ := S0.out
  obtain ⟨r0, r1⟩ := C2.out w0 (Below.refl _ _)
  have l0 : (rs.length : Int) ≤ 16 := by omega
  have y3 := hid (fun (W : World) (h : Below w0.heap.size w0 W) => And.intro (SK.out W h) (C2.out W h))
  have ZA := hid (show Below w0.heap.size w0 ((w0.drewN 1).alloc (.cells #[.string (ByteArray.mk #[]), .slice none 0 0, .slice none 0 0] 48)) from (below_drewN w0.heap.size w0 1).alloc (by simp) _)
  have ZLT := hid (show w0.heap.size < ((w0.drewN 1).alloc (.cells #[.string (ByteArray.mk #[]), .slice none 0 0, .slice none 0 0] 48)).heap.size from by simp)
  have ka : ∀ o, StC (w0.alloc o) b mb nm (.slice ao ats.length acap) (.slice ro rs.length rcap) (.slice fo MM.length fcap) dv ev := fun o => SK.out _ (below_alloc w0 o)
  have ka0 := fun o => (ka o).c0
  have ka1 := fun o => (ka o).c1
  have ka2 := fun o => (ka o).c2
  have kr0 := fun o => (C2.out _ (below_alloc w0 o)).1
  have kr1 := fun o => (C2.out _ (below_alloc w0 o)).2
  clear hS hT hF hE hN hl hO hn hp hx hxl hf hne hML hMM hb0 hs0 hw0 hu hfu hyl hyn hk hN16 blt mlt ka
  go_enter Tryz.func10, Tryz.ntmps10
  go_upto_region 1 with fail
  rw [W0.out]
  go_cut [5, 6] (fun s5 s6 wx => ∃ (q : Nat) (x : Int) (n' : ByteArray) (ao' : Option Addr) (an ac : Nat) (ro' : Option Addr) (rn rc : Nat), s5 = .pointer (some ⟨q, 0, none⟩) ∧ s6 = .int .i64 x ∧ BoxT (insR rs ats.length id ys) nm ats w0 wx q x n' (.slice ao' an ac) (.slice ro' rn rc))
  case first =>
    go_region_law (first
      | (go_simp; go_at_call 33; refine (IN.out _ (below_drewN w0.heap.size w0 1)).mono ?_; rintro e w2 ⟨n2, ao2, an2, ac2, ro2, rn2, rc2, x2, rfl, hok, hb2⟩; have BX := hid (BoxT.alloc (nm := nm) (ats := ats) (R := insR rs ats.length id ys) (below_drewN w0.heap.size w0 1) hb2 hok); clear hok hb2)
      | (go_simp; go_at_call 33; refine (IN.out _ ZA.out).mono ?_; rintro e w2 ⟨n2, ao2, an2, ac2, ro2, rn2, rc2, x2, rfl, hok, hb2⟩; obtain ⟨z0, z1, z2, zf⟩ := zcells (w := w0) hb2; have zf0 := zf 0; have zf1 := zf 1; have zf2 := zf 2; have BX := hid (BoxT.store (nm := nm) (ats := ats) (R := insR rs ats.length id ys) ZA.out hb2 (Nat.le_refl _) ZLT.out z0 z1 z2 hok); clear hok hb2 zf))
    all_goals (go_wp2_with fail; go_meet; exact ⟨_, _, _, _, _, _, _, _, _, rfl, rfl, BX.out⟩)
  case rest =>
    obtain ⟨q, x, n', ao', an, ac, ro', rn, rc, rfl, rfl, hbx⟩ := hcut
    have HB := hid hbx
    have SC := hid (SK.out wc hbx.below)
    by_cases hx0 : x = 0
    · subst hx0
      obtain ⟨rfl, rs', hR, hT', hF'⟩ := hbx.ok rfl
      have HR := hid hR
      have HT' := hid hT'
      have HF' := hid hF'
      obtain ⟨ao9, acap9, he9, -⟩ := hT'.1.split
      simp only [Value.slice.injEq] at he9
      obtain ⟨rfl, rfl, rfl⟩ := he9
      have q0 := hbx.c0
      have q1 := hbx.c1
      have q2 := hbx.c2
      obtain ⟨d0, d1, d2, d3, d4, d5, d6, df⟩ := SC.out
      have df0 := df 0
      have df1 := df 1
      have df2 := df 2
      have bq : b ≠ q := by have := hbx.lo; have := BLT.out; have := HS0.out; omega
      have mq : mb ≠ q := by have := hbx.lo; have := MLT.out; have := HS0.out; omega
      -- the state with the new table
      obtain ⟨w4, hw4⟩ : ∃ w4 : World, ((wc.setCell ⟨b, 0, none⟩ (.string n')).setCell ⟨b, 1, none⟩ (.slice ao' ats.length ac)).setCell ⟨b, 2, none⟩ (.slice ro' rn rc) = w4 := ⟨_, rfl⟩
      have S4 : StC w4 b mb n' (.slice ao' ats.length ac) (.slice ro' rn rc) (.slice fo MM.length fcap) dv ev := by rw [← hw4]; exact SC.out.setT n' _ _
      have G4 : wc.grownBy w4 (some b) := by rw [← hw4]; exact grow_trans' (grow_trans' (grown_setM wc ⟨b, 0, none⟩ _) (grown_setM _ ⟨b, 1, none⟩ _)) (grown_setM _ ⟨b, 2, none⟩ _)
      have fb := HF'.out b (by have := BLT.out; have := HS0.out; omega)
      have fm := HF'.out mb (by have := MLT.out; have := HS0.out; omega)
      have T4 : RdT w4 (.slice ao' ats.length ac) (.slice ro' rn rc) (n', ats, rs') := ⟨RdE.grown hT'.1 G4 fb.1, RdC.grown hT'.2.1 G4 fb.2.1, fun r hr => RdC.grown (hT'.2.2 r hr) G4 (fb.2.2 r hr)⟩
      have BX := hid hbx.below
      have R4 := (C2.out wc BX.out)
      have rlt : w.heap.size < wc.heap.size := World.block_lt_of_cell? _ _ R4.1
      have rne : some w.heap.size ≠ some b := by simp; have := BLT.out; omega
      have rr0 := (G4.cell_far ⟨w.heap.size, 0, none⟩ rlt rne).trans R4.1
      have rr1 := (G4.cell_far ⟨w.heap.size, 1, none⟩ rlt rne).trans R4.2
      have U4 := hid (RdC.grown (RdC.below U0.out BX.out) G4 (HFU.out b (.inl rfl)))
      have O4 := hid ((HO.out.below BX.out).kept G4 (by simp; exact fun e => HNE.out e.symm))
      have HFb := HF.out b (.inl rfl)
      have FD4 := hid (RdC.grown (RdC.below HFD.out BX.out) G4 HFb.2.2.1)
      obtain ⟨ro8x, rc8x, he8, -⟩ := RdR.split T4.2
      simp only [Value.slice.injEq] at he8
      obtain ⟨rfl, rfl, rfl⟩ := he8
      -- plain facts
      obtain ⟨ra, rb, u', hcp, rfl, hra, hrb, h0, hyl, hbad⟩ := hR
      have hwid : ∀ r ∈ ra ++ rb, r.2.2.length = ats.length := by
        obtain ⟨-, -, -, -, hrow⟩ := tabE_iff.1 HE.out
        intro r hr
        have e1 := hcp.vals (n := r.2.2.length)
        have h1 : (r.1, r.2.2) ∈ (ra ++ rb).map (fun r => (r.1, r.2.2)) := List.mem_map.2 ⟨r, hr, rfl⟩
        rw [hcp] at h1
        obtain ⟨p, hp, e⟩ := List.mem_map.1 h1
        have e2 := congrArg Prod.snd e
        simp only at e2
        rw [← e2]; exact ((rowsE_iff.1 hrow).2 p hp).1
      have hlen' : (ra ++ rb).length = rs.length := hcp.len
      have hlen : (ra ++ (id, u', ys) :: rb).length = rs.length + 1 := by rw [List.length_append, List.length_cons]; rw [List.length_append] at hlen'; omega
      have hpl := pairs_len HP.out (by have := HL.out; have := HN16.out; omega)
      have STP := stepC_up (ps := ps) (rs := ra ++ (id, u', ys) :: rb) (id := id) (ys := ys) hpl (by rw [hlen]; have := HL.out; have := HN16.out; omega)
      have PP : (upL ps (ra ++ (id, u', ys) :: rb) id ys (ra ++ (id, u', ys) :: rb).length).Perm (pairsS (ra ++ (id, u', ys) :: rb)) :=
        count_in (m := ats.length) (fun p hp => ⟨by have := hra p hp; omega, hwid p (List.mem_append_left _ hp)⟩) (fun p hp => ⟨by have := hrb p hp; omega, hwid p (List.mem_append_right _ hp)⟩) hyl (by rw [pairsS_core hcp]; exact HP.out)
      have hwr : ∀ r ∈ ra ++ (id, u', ys) :: rb, r.2.2.length = ys.length := by
        intro r hr
        rw [hyl]
        rcases List.mem_append.1 hr with h | h
        · exact hwid r (List.mem_append_left _ h)
        · rcases List.mem_cons.1 h with rfl | h
          · exact hyl
          · exact hwid r (List.mem_append_right _ h)
      have CNT := hid (mcount_any b mb n (ra ++ (id, u', ys) :: rb) (.slice ro' (ra ++ (id, u', ys) :: rb).length rc) (.slice uo ys.length ucap) id 1 ys (upL ps (ra ++ (id, u', ys) :: rb) id ys) w4 S4.c2 S4.c3 HNE.out T4.2 fm.2.1 fm.2.2 U4.out (HFU.out mb (.inr rfl)) hwr (by rw [hyl]; have := HK.out; omega) (by rw [hlen]; have := HL.out; have := HN16.out; omega) STP (.inl rfl) (by rw [upL_zero]; exact O4.out) (by have := HNN.out; have := HN16.out; omega))
      have VAL := hid (ins_valid HE.out (by have := HL.out; have := HN16.out; omega) HR.out)
      have NUM := hid (ins_num HN.out HYN.out HR.out)
      obtain ⟨rs', hrs'⟩ : ∃ rs', ra ++ (id, u', ys) :: rb = rs' := ⟨_, rfl⟩
      rw [hrs'] at CNT VAL NUM PP hlen T4 S4 fb fm hw4 q2
      obtain ⟨pq, hpq⟩ : ∃ pq, upL ps rs' id ys rs'.length = pq := ⟨_, rfl⟩
      rw [hpq] at PP CNT
      have PQ := hid PP
      have S4H := hid S4
      have T4H := hid T4
      have G4H := hid G4
      have FB := hid (And.intro fb fm)
      have HLEN := hid hlen
      have W4 := hid hw4
      have RL := hid rlt
      clear hbx hT' hF' hcp hra hrb h0 hyl hbad hwid hlen' hpl STP hwr PP hrs' hpq S4 T4 G4 fb fm hw4 R4 HFb HR HT' HF' hlen
      rw [← W4.out] at rr0 rr1
      go_wp2_with fail
      rw [W4.out]
      refine CNT.out.mono ?_
      rintro e w5 ⟨rfl, n5, ho5, hn5, hg5⟩
      have hnm : some b ≠ some mb := by simp; exact HNE.out
      have S5 := S4H.out.far hg5 hnm
      obtain ⟨fb, fm⟩ := FB.out
      have T5 : RdT w5 (.slice ao' ats.length ac) (.slice ro' rs'.length rc) (n', ats, rs') := ⟨RdE.grown T4H.out.1 hg5 fm.1, RdC.grown T4H.out.2.1 hg5 fm.2.1, fun r hr => RdC.grown (T4H.out.2.2 r hr) hg5 (fm.2.2 r hr)⟩
      have F5 := RdC.grown FD4.out hg5 (HF.out mb (.inr rfl)).2.2.1
      have REN := hid (ren_st (N := N + 1) S5 HNE.out T5 (fun j hj => by
        rcases hj with rfl | rfl
        · exact ⟨fb.1, fb.2.1, (HF.out _ (.inl rfl)).2.2.1, fb.2.2⟩
        · exact ⟨fm.1, fm.2.1, (HF.out _ (.inr rfl)).2.2.1, fm.2.2⟩) VAL.out NUM.out (by rw [HLEN.out]; have := HL.out; omega) ho5 (by have h1 := HNN.out; have h2 := HLEN.out; have h3 := HL.out; have h4 := HN16.out; omega) PQ.out HK.out F5 HML.out)
      have BB := hid (fun (B : Nat) (h1 : B ≤ b) (h2 : B ≤ mb) (h3 : B ≤ w.heap.size) => show Below B w w5 from by
        have e1 : Below B w wc := (B0.out.trans (BX.out.mono (by have := HS0.out; omega))).mono h3
        have e2 := grow_belowM G4H.out h1 (Nat.le_trans h3 e1.size)
        exact (e1.trans e2).trans (grow_belowM hg5 h2 (Nat.le_trans h3 (Nat.le_trans e1.size e2.size))))
      clear S5 T5 F5 ho5 hn5 hg5 fb fm d0 d1 d2 d3 d4 d5 d6 df0 df1 df2 df q0 q1 q2 rr0 rr1
      go_wp2_with fail
      refine REN.out.mono ?_
      rintro e w6 ⟨rfl, hst6, hg6⟩
      have ST6 := hid hst6
      have B6 := hid (fun (B : Nat) (h1 : B ≤ b) (h2 : B ≤ mb) (h3 : B ≤ w.heap.size) => show Below B w w6 from (BB.out B h1 h2 h3).trans (grow_belowM hg6 h1 (Nat.le_trans h3 (BB.out B h1 h2 h3).size)))
      clear hst6 hg6
      go_wp2_with fail
      go_ret
      exact ⟨⟨0, rfl⟩, ST6.out, B6.out⟩
    · have hxt : (x != (0 : Int)) = true := by simpa using hx0
      have BX := hid hbx.below
      have ST2 := hid ((HST.out.below (B0.out.trans (BX.out.mono (by have := HS0.out; omega)))).more (Nat.le_succ N))
      have B2 := hid (fun (B : Nat) (h1 : B ≤ b) (h2 : B ≤ mb) (h3 : B ≤ w.heap.size) => show Below B w wc from (B0.out.trans (BX.out.mono (by have := HS0.out; omega))).mono h3)
      clear hbx
      go_wp2_with fail
      go_ret
      exact ⟨⟨x, rfl⟩, ST2.out, B2.out⟩

end Go.Proofs.YtdiafhbbmliefaaGreatDoor


/- The walk of State.Delete. -/
namespace Go.Proofs.YtdiafhbbmliefaaGreatDoor
open Go.RowKit
set_option linter.unusedVariables false

theorem row_split {rs : List Row3} {i : Nat} {r : Row3} (h : rs[i]? = some r) : rs = rs.take i ++ r :: rs.drop (i + 1) := by
  have hi := List.getElem?_eq_some_iff.1 h
  rw [← hi.2, ← List.drop_eq_getElem_cons hi.1, List.take_append_drop]
theorem asc_split {rs : List Row3} {i : Nat} {r : Row3} (hasc : (rs.map (·.1)).Pairwise (· < ·)) (h : rs[i]? = some r) : (∀ x ∈ rs.take i, x.1 < r.1) ∧ ∀ x ∈ rs.drop (i + 1), r.1 < x.1 := by
  rw [row_split h, List.map_append, List.map_cons, List.pairwise_append, List.pairwise_cons] at hasc
  obtain ⟨-, ⟨p1, -⟩, p3⟩ := hasc
  exact ⟨fun x hx => p3 x.1 (List.mem_map.2 ⟨x, hx, rfl⟩) r.1 (by simp), fun x hx => p1 x.1 (List.mem_map.2 ⟨x, hx, rfl⟩)⟩
theorem cpAs.row {rs rs' : List Row3} (h : cpAs rs rs') {q : Row3} (hq : q ∈ rs') : ∃ p ∈ rs, p.1 = q.1 ∧ p.2.2 = q.2.2 := by
  have h1 : (q.1, q.2.2) ∈ rs'.map (fun r => (r.1, r.2.2)) := List.mem_map.2 ⟨q, hq, rfl⟩
  rw [h] at h1
  obtain ⟨p, hp, e⟩ := List.mem_map.1 h1
  rw [Prod.mk.injEq] at e
  exact ⟨p, hp, e.1, e.2⟩
theorem cp_valid {nm : ByteArray} {ats : List ByteArray} {rs rs' : List Row3} (h : cpAs rs rs') (hE : tabE (nm, ats, rs) = 0) : tabE (nm, ats, rs') = 0 := by
  obtain ⟨-, -, hl, -, hrow⟩ := tabE_iff.1 hE
  obtain ⟨hasc, hv⟩ := rowsE_iff.1 hrow
  refine tabE_rowsM hE (by rw [h.len]; exact hl) (rowsE_iff.2 ⟨by rw [h.ids]; exact hasc, fun q hq => ?_⟩)
  obtain ⟨p, hp, -, e⟩ := h.row hq
  rw [← e]; exact hv p hp
theorem cp_num {rs rs' : List Row3} (h : cpAs rs rs') (hN : NumR rs) : NumR rs' := by
  intro q hq x hx
  obtain ⟨p, hp, -, e⟩ := h.row hq
  exact hN p hp x (by rw [e]; exact hx)
theorem cut_valid {nm : ByteArray} {ats : List ByteArray} {rs : List Row3} (i : Nat) (hE : tabE (nm, ats, rs) = 0) : tabE (nm, ats, rs.take i ++ rs.drop (i + 1)) = 0 := by
  obtain ⟨-, -, hl, -, hrow⟩ := tabE_iff.1 hE
  obtain ⟨hasc, hv⟩ := rowsE_iff.1 hrow
  have hsub : (rs.take i ++ rs.drop (i + 1)).Sublist rs := by
    have h1 : (rs.drop (i + 1)).Sublist (rs.drop i) := by
      rw [show rs.drop (i + 1) = (rs.drop i).drop 1 by rw [List.drop_drop]]
      exact List.drop_sublist _ _
    have h2 := (List.Sublist.refl (rs.take i)).append h1
    rwa [List.take_append_drop] at h2
  refine tabE_rowsM hE (Nat.le_trans hsub.length_le hl) (rowsE_iff.2 ⟨hasc.sublist ((hsub.map _).cons_cons 0), fun q hq => hv q (hsub.subset hq)⟩)
theorem cut_num {rs : List Row3} (i : Nat) (hN : NumR rs) : NumR (rs.take i ++ rs.drop (i + 1)) := by
  intro q hq
  rcases List.mem_append.1 hq with h | h
  · exact hN q (List.mem_of_mem_take h)
  · exact hN q (List.mem_of_mem_drop h)
/-- The numbers ahead of and behind the count down. -/
theorem down_ok {nm : ByteArray} {ats : List ByteArray} {rs : List Row3} {ps : List S} {i : Nat} {r : Row3} (hE : tabE (nm, ats, rs) = 0) (hr : rs[i]? = some r) (hp : ps.Perm (pairsS rs)) (hl : rs.length ≤ 100) :
    ps.Perm (dnL (pairsS (rs.take i ++ rs.drop (i + 1))) rs r.1 r.2.2 0) ∧ StepC (-1) rs r.1 r.2.2 (dnL (pairsS (rs.take i ++ rs.drop (i + 1))) rs r.1 r.2.2) ∧ (pairsS (rs.take i ++ rs.drop (i + 1))).length ≤ 40000 ∧ ∀ q ∈ rs, q.2.2.length = r.2.2.length := by
  obtain ⟨-, -, -, -, hrow⟩ := tabE_iff.1 hE
  obtain ⟨hasc, hv⟩ := rowsE_iff.1 hrow
  have hsp := row_split hr
  obtain ⟨h1, h2⟩ := asc_split (List.pairwise_cons.1 hasc).2 hr
  have hrl := (hv r (List.mem_of_getElem? hr)).1
  have hl2 : (rs.take i ++ rs.drop (i + 1)).length ≤ 100 := by rw [List.length_append, List.length_take, List.length_drop]; omega
  have hl3 : (pairsS (rs.take i ++ rs.drop (i + 1))).length ≤ 40000 := pairs_len (List.Perm.refl _) hl2
  refine ⟨?_, stepC_dn hl3 (by omega), hl3, fun q hq => by rw [(hv q hq).1, hrl]⟩
  have := count_out (m := ats.length) (a := rs.take i) (b := rs.drop (i + 1)) (id := r.1) (u := r.2.1) (ys := r.2.2) (ps := ps) (fun x hx => ⟨by have := h1 x hx; omega, (hv x (List.mem_of_mem_take hx)).1⟩) (fun x hx => ⟨by have := h2 x hx; omega, (hv x (List.mem_of_mem_drop hx)).1⟩) hrl (by
    have e : rs.take i ++ (r.1, r.2.1, r.2.2) :: rs.drop (i + 1) = rs := hsp.symm
    rw [e]; exact hp)
  have e : rs.take i ++ (r.1, r.2.1, r.2.2) :: rs.drop (i + 1) = rs := hsp.symm
  rw [e] at this
  exact this

set_option maxHeartbeats 12800000 in
set_option maxRecDepth 100000 in
theorem mdelete_any (b mb N : Nat) (nm : ByteArray) (ats : List ByteArray) (id : Int) (w : World) (hst : St b mb N nm ats w) (hk : ats.length ≤ 6) (hN16 : N ≤ 16) :
    Calls Tryz.prog 7 #[.pointer (some ⟨b, 0, none⟩), .int .i64 id] w (StQ b mb (N + 1) nm ats w) := by
  have HST := hid hst
  obtain ⟨av, rv, fv, dv, ev, rs, ps, xs, n, hS, hne, hT, hF, hE, hN, hl, hO, hn, hp, hx, hxl, hf⟩ := hst
  obtain ⟨ao, acap, hva, -⟩ := hT.1.split
  obtain ⟨ro, rcap, hvr, -⟩ := RdR.split hT.2
  simp only at hva hvr
  subst hva hvr
  have hML := fds_len (ps := ps) hk hxl
  obtain ⟨MM, hMM⟩ : ∃ MM, minO (qB ats.length ps) ats.length xs xs.length = MM := ⟨_, rfl⟩
  rw [hMM] at hf hML
  have HML := hid hML
  have hf2 := hf
  obtain ⟨fo, fcap, hfv, -⟩ := hf2
  subst hfv
  have S0 := hid hS
  have T0 := hid hT
  have SK := hid (fun (W : World) (h : Below w.heap.size w W) => S0.out.below h)
  have DE := hid ((tdelete_any (nm, ats, rs) (.slice ao ats.length acap) (.slice ro rs.length rcap) id w T0.out hE).mono fun e w' h => h.res)
  have FI := hid (fun (W : World) (h : Below w.heap.size w W) => find_any (nm, ats, rs) (.slice ao ats.length acap) (.slice ro rs.length rcap) id W (T0.out.below h))
  have HF := hid hF
  have HE := hid hE
  have HN := hid hN
  have HL := hid hl
  have HO := hid hO
  have HNN := hid hn
  have HP := hid hp
  have HFD := hid hf
  have HK := hid hk
  have HNE := hid hne
  have HN16 := hid hN16
  have BLT := hid hS.lt
  have MLT := hid hO.lt
  obtain ⟨c0, c1, c2, c3, c4, c5, c6, cf⟩ := S0.out
  have l0 : (rs.length : Int) ≤ 16 := by omega
  clear hS hT hF hE hN hl hO hn hp hx hxl hf hne hML hMM hk hN16
  go_enter Tryz.func7, Tryz.ntmps7
  go_wp2_with fail
  refine DE.out.mono ?_
  rintro e w2 ⟨n2, ao2, an2, ac2, ro2, rn2, rc2, x2, rfl, hok, hb2⟩
  have BX := hid (BoxT.alloc (nm := nm) (ats := ats) (R := delR rs id) (Below.refl _ w) hb2 hok)
  obtain ⟨wc, hwc⟩ : ∃ wc : World, w2.alloc (.cells #[.string n2, .slice ao2 an2 ac2, .slice ro2 rn2 rc2] 48) = wc := ⟨_, rfl⟩
  have WC := hid hwc
  rw [hwc] at BX
  have SC := hid (SK.out wc BX.out.below)
  obtain ⟨d0, d1, d2, d3, d4, d5, d6, df⟩ := SC.out
  clear hok hb2 c0 c1 c2 c3 c4 c5 c6 cf hwc
  by_cases hx0 : x2 = 0
  · subst hx0
    obtain ⟨rfl, rs', ⟨i, r, hfnd, hr, hrid, hcp⟩, hT', hF'⟩ := BX.out.ok rfl
    have HT' := hid hT'
    have HF' := hid hF'
    obtain ⟨ao9, acap9, he9, -⟩ := hT'.1.split
    simp only [Value.slice.injEq] at he9
    obtain ⟨rfl, rfl, rfl⟩ := he9
    obtain ⟨ro8x, rc8x, he8, -⟩ := RdR.split hT'.2
    simp only [Value.slice.injEq] at he8
    obtain ⟨rfl, rfl, rfl⟩ := he8
    obtain ⟨rid, ru, rys⟩ := r
    simp only at hrid
    subst hrid
    have hil := (List.getElem?_eq_some_iff.1 hr).1
    have i0 : (0 : Int) ≤ (i : Int) := by omega
    have i1 : (i : Int) < (rs.length : Int) := by omega
    obtain ⟨hq1, hq2, hq3, hq4⟩ := down_ok HE.out hr HP.out (by have := HL.out; have := HN16.out; omega)
    simp only at hq1 hq2 hq4
    have TC := hid (T0.out.below BX.out.below)
    obtain ⟨rb, roff, hro, e0, e1, hrv⟩ := TC.out.2.at hr
    simp only at hro e0 e1 hrv
    subst hro
    obtain ⟨uo, ucap, hru, -⟩ := RdV.split hrv
    subst hru
    have hrl : rys.length ≤ 16 := by
      obtain ⟨-, h16, -, -, hrow⟩ := tabE_iff.1 HE.out
      have := ((rowsE_iff.1 hrow).2 _ (List.mem_of_getElem? hr)).1
      simp only at this h16
      omega
    have HFm := HF.out mb (.inr rfl)
    have HFb := HF.out b (.inl rfl)
    have PQ := hid (show (pairsS (rs.take i ++ rs.drop (i + 1))).Perm (pairsS rs') by rw [pairsS_core hcp])
    have VAL := hid (cp_valid hcp (cut_valid i HE.out))
    have NUM := hid (cp_num hcp (cut_num i HN.out))
    have HLEN := hid (show rs'.length ≤ rs.length by rw [hcp.len, List.length_append, List.length_take, List.length_drop]; omega)
    obtain ⟨pq, hpq⟩ : ∃ pq, pairsS (rs.take i ++ rs.drop (i + 1)) = pq := ⟨_, rfl⟩
    rw [hpq] at PQ hq1 hq2
    have FC := hid (FI.out wc BX.out.below)
    have hfv : fndV (fnd (n2, ats, rs).2.2 rid) = .tuple #[.int .i64 (i : Int), .bool true] := by rw [show fnd (n2, ats, rs).2.2 rid = some i from hfnd]; rfl
    rw [hfv] at FC
    have bq : b ≠ w2.heap.size := by have h1 := BX.out.lo; have h2 := BLT.out; omega
    have fb := HF'.out b BLT.out
    have fm := HF'.out mb MLT.out
    have FB := hid (And.intro fb fm)
    have QC := hid (And.intro BX.out.c0 (And.intro BX.out.c1 BX.out.c2))
    rw [← WC.out] at d0 d1 d2 d3
    have HRX := hid (List.mem_of_getElem? hr)
    have Q1 := hid hq1
    have Q2 := hid hq2
    have Q4 := hid hq4
    have HRV := hid hrv
    have HRL := hid hrl
    clear hfnd hr hcp hT' hF' hil hq1 hq2 hq4 hrv hpq hfv HFm HFb df hrl hq3
    go_wp2_with fail
    rw [WC.out]
    rw [WC.out] at d0 d1 d2 d3
    refine FC.out.mono ?_
    rintro e w3 ⟨rfl, hb3⟩
    have B3 := hid hb3
    have S3 := hid (SC.out.below hb3)
    obtain ⟨g0, g1, g2, g3, g4, g5, g6, gf⟩ := S3.out
    have k0 := (hb3.cell (p := ⟨rb, roff + i * 2, none⟩) (World.block_lt_of_cell? _ _ e0)).trans e0
    have k1 := (hb3.cell (p := ⟨rb, roff + i * 2 + 1, none⟩) (World.block_lt_of_cell? _ _ e1)).trans e1
    have TC3 := hid (TC.out.below hb3)
    have RV3 := hid (RdC.below HRV.out hb3)
    have O3 := ((HO.out.below BX.out.below).below hb3).congr (fun s => count_perm Q1.out s) (fun s => has_perm Q1.out s)
    have HFm := HF.out mb (.inr rfl)
    have HFb := HF.out b (.inl rfl)
    have CNT := hid (mcount_any b mb n rs (.slice (some ⟨rb, roff, none⟩) rs.length rcap) (.slice uo rys.length ucap) rid (-1) rys _ w3 S3.out.c2 S3.out.c3 HNE.out TC3.out.2 HFm.2.1 HFm.2.2.2 RV3.out (HFm.2.2.2 _ HRX.out) Q4.out (by have := HRL.out; omega) (by have := HL.out; have := HN16.out; omega) Q2.out (.inr rfl) O3 (by have := HNN.out; have := HN16.out; omega))
    rw [dnL_end] at CNT
    clear O3 HFm HFb e0 e1 d0 d1 d2 d3 d4 d5 d6
    go_wp2_with fail
    refine CNT.out.mono ?_
    rintro e w4 ⟨rfl, n5, ho5, hn5, hg5⟩
    have hnm : some b ≠ some mb := by simp; exact HNE.out
    have S4 := hid (S3.out.far hg5 hnm)
    have qlt : w2.heap.size < wc.heap.size := World.block_lt_of_cell? _ _ QC.out.1
    have qm : some w2.heap.size ≠ some mb := by simp; have h1 := BX.out.lo; have h2 := MLT.out; omega
    have qk : ∀ (o : Nat) (v : Value), wc.cell? ⟨w2.heap.size, o, none⟩ = some v → w4.cell? ⟨w2.heap.size, o, none⟩ = some v := fun o v hv => (hg5.cell_far ⟨w2.heap.size, o, none⟩ (Nat.lt_of_lt_of_le qlt B3.out.size) qm).trans ((B3.out.cell (p := ⟨w2.heap.size, o, none⟩) qlt).trans hv)
    have q0 := qk _ _ QC.out.1
    have q1 := qk _ _ QC.out.2.1
    have q2 := qk _ _ QC.out.2.2
    have G4 := hid hg5
    have O4 := hid ho5
    have N4 := hid hn5
    obtain ⟨a0, a1, a2, a3, a4, a5, a6, af⟩ := S4.out
    have af0 := af 0
    have af1 := af 1
    have af2 := af 2
    obtain ⟨w5, hw5⟩ : ∃ w5 : World, ((w4.setCell ⟨b, 0, none⟩ (.string n2)).setCell ⟨b, 1, none⟩ (.slice ao2 ats.length ac2)).setCell ⟨b, 2, none⟩ (.slice ro2 rs'.length rc2) = w5 := ⟨_, rfl⟩
    have S5 : StC w5 b mb n2 (.slice ao2 ats.length ac2) (.slice ro2 rs'.length rc2) (.slice fo MM.length fcap) dv ev := by rw [← hw5]; exact S4.out.setT n2 _ _
    have G5 : w4.grownBy w5 (some b) := by rw [← hw5]; exact grow_trans' (grow_trans' (grown_setM w4 ⟨b, 0, none⟩ _) (grown_setM _ ⟨b, 1, none⟩ _)) (grown_setM _ ⟨b, 2, none⟩ _)
    obtain ⟨fb, fm⟩ := FB.out
    have T3' := HT'.out.below B3.out
    have T5 : RdT w5 (.slice ao2 ats.length ac2) (.slice ro2 rs'.length rc2) (n2, ats, rs') := ⟨RdE.grown (RdE.grown T3'.1 hg5 fm.1) G5 fb.1, RdC.grown (RdC.grown T3'.2.1 hg5 fm.2.1) G5 fb.2.1, fun r hr => RdC.grown (RdC.grown (T3'.2.2 r hr) hg5 (fm.2.2 r hr)) G5 (fb.2.2 r hr)⟩
    have F5 := RdC.grown (RdC.grown (RdC.below (RdC.below HFD.out BX.out.below) B3.out) hg5 (HF.out mb (.inr rfl)).2.2.1) G5 (HF.out b (.inl rfl)).2.2.1
    have O5 := ho5.kept G5 (by simp; exact fun e => HNE.out e.symm)
    have REN := hid (ren_st (N := N + 1) S5 HNE.out T5 (fun j hj => by
      rcases hj with rfl | rfl
      · exact ⟨fb.1, fb.2.1, (HF.out _ (.inl rfl)).2.2.1, fb.2.2⟩
      · exact ⟨fm.1, fm.2.1, (HF.out _ (.inr rfl)).2.2.1, fm.2.2⟩) VAL.out NUM.out (by have := HL.out; have := HLEN.out; omega) O5 (by have h1 := HNN.out; have h3 := HL.out; have h4 := HN16.out; have h5 := N4.out; omega) PQ.out HK.out F5 HML.out)
    have BB := hid (fun (B : Nat) (h1 : B ≤ b) (h2 : B ≤ mb) (h3 : B ≤ w.heap.size) => show Below B w w5 from by
      have e1 : Below B w w3 := (BX.out.below.trans (B3.out.mono BX.out.below.size)).mono h3
      have e2 := grow_belowM G4.out h2 (Nat.le_trans h3 e1.size)
      exact (e1.trans e2).trans (grow_belowM G5 h1 (Nat.le_trans h3 (Nat.le_trans e1.size e2.size))))
    have W5 := hid hw5
    clear S5 G5 T5 F5 O5 ho5 hn5 hg5 fb fm T3' hw5 qk g0 g1 g2 g3 g4 g5 g6 k0 k1 gf
    go_wp2_with fail
    rw [W5.out]
    refine REN.out.mono ?_
    rintro e w6 ⟨rfl, hst6, hg6⟩
    have ST6 := hid hst6
    have B6 := hid (fun (B : Nat) (h1 : B ≤ b) (h2 : B ≤ mb) (h3 : B ≤ w.heap.size) => show Below B w w6 from (BB.out B h1 h2 h3).trans (grow_belowM hg6 h1 (Nat.le_trans h3 (BB.out B h1 h2 h3).size)))
    clear hst6 hg6 q0 q1 q2 a0 a1 a2 a3 a4 a5 a6 af af0 af1 af2
    go_wp2_with fail
    go_ret
    exact ⟨⟨0, rfl⟩, ST6.out, B6.out⟩
  · have hxt : (x2 != (0 : Int)) = true := by simpa using hx0
    have ST2 := hid ((HST.out.below BX.out.below).more (Nat.le_succ N))
    have B2 := hid (fun (B : Nat) (h1 : B ≤ b) (h2 : B ≤ mb) (h3 : B ≤ w.heap.size) => show Below B w wc from BX.out.below.mono h3)
    go_wp2_with fail
    rw [WC.out]
    go_ret
    exact ⟨⟨x2, rfl⟩, ST2.out, B2.out⟩

end Go.Proofs.YtdiafhbbmliefaaGreatDoor


/- The walk of State.Change. -/
namespace Go.Proofs.YtdiafhbbmliefaaGreatDoor
open Go.RowKit
set_option linter.unusedVariables false

theorem set_valid {nm : ByteArray} {ats : List ByteArray} {rs : List Row3} {i a : Nat} {r : Row3} {x : V3} (hE : tabE (nm, ats, rs) = 0) (hr : rs[i]? = some r) (hx : badV x = false) : tabE (nm, ats, rs.set i (r.1, r.2.1, r.2.2.set a x)) = 0 := by
  obtain ⟨-, -, hl, -, hrow⟩ := tabE_iff.1 hE
  obtain ⟨hasc, hv⟩ := rowsE_iff.1 hrow
  have hi := List.getElem?_eq_some_iff.1 hr
  refine tabE_rowsM hE (by rw [List.length_set]; exact hl) (rowsE_iff.2 ⟨?_, fun q hq => ?_⟩)
  · have e : (rs.set i (r.1, r.2.1, r.2.2.set a x)).map (·.1) = rs.map (·.1) := by
      rw [List.map_set]
      have : rs.map (·.1) = (rs.map (·.1)).set i r.1 := by
        have h2 : (rs.map (·.1))[i]'(by rw [List.length_map]; exact hi.1) = r.1 := by rw [List.getElem_map, hi.2]
        rw [← h2, List.set_getElem_self]
      exact this.symm
    rw [e]; exact hasc
  · rcases List.mem_or_eq_of_mem_set hq with h | h
    · exact hv q h
    · subst h
      have h1 := hv r (List.mem_of_getElem? hr)
      refine ⟨by show (r.2.2.set a x).length = _; rw [List.length_set]; exact h1.1, ?_⟩
      show (r.2.2.set a x).any badV = false
      rw [List.any_eq_false]
      intro y hy
      rcases List.mem_or_eq_of_mem_set hy with h | h
      · have := List.any_eq_false.1 h1.2 y h; exact this
      · subst h; rw [hx]; simp
theorem set_num {rs : List Row3} {i a : Nat} {r : Row3} {x : V3} (hN : NumR rs) (hr : rs[i]? = some r) (hx : -9223372036854775808 ≤ x.2.1 ∧ x.2.1 < 9223372036854775808) : NumR (rs.set i (r.1, r.2.1, r.2.2.set a x)) := by
  intro q hq y hy
  rcases List.mem_or_eq_of_mem_set hq with h | h
  · exact hN q h y hy
  · subst h
    rcases List.mem_or_eq_of_mem_set hy with h | h
    · exact hN r (List.mem_of_getElem? hr) y h
    · subst h; exact hx
/-- The numbers of the count up behind a change. -/
theorem up_ok {nm : ByteArray} {ats : List ByteArray} {rs' : List Row3} {i : Nat} {y : Row3} {ps : List S} (hE : tabE (nm, ats, rs') = 0) (hr : rs'[i]? = some y) (hp : ps.Perm (pairsS (rs'.take i ++ rs'.drop (i + 1)))) (hpl : ps.length ≤ 40000) (hl : rs'.length ≤ 100) :
    StepC 1 rs' y.1 y.2.2 (upL ps rs' y.1 y.2.2) ∧ (upL ps rs' y.1 y.2.2 rs'.length).Perm (pairsS rs') ∧ ∀ q ∈ rs', q.2.2.length = y.2.2.length := by
  obtain ⟨-, -, -, -, hrow⟩ := tabE_iff.1 hE
  obtain ⟨hasc, hv⟩ := rowsE_iff.1 hrow
  have hsp := row_split hr
  obtain ⟨h1, h2⟩ := asc_split (List.pairwise_cons.1 hasc).2 hr
  have hrl := (hv y (List.mem_of_getElem? hr)).1
  refine ⟨stepC_up hpl (by omega), ?_, fun q hq => by rw [(hv q hq).1, hrl]⟩
  have := count_in (m := ats.length) (a := rs'.take i) (b := rs'.drop (i + 1)) (id := y.1) (u := y.2.1) (ys := y.2.2) (ps := ps) (fun x hx => ⟨by have := h1 x hx; omega, (hv x (List.mem_of_mem_take hx)).1⟩) (fun x hx => ⟨by have := h2 x hx; omega, (hv x (List.mem_of_mem_drop hx)).1⟩) hrl hp
  have e : rs'.take i ++ (y.1, y.2.1, y.2.2) :: rs'.drop (i + 1) = rs' := hsp.symm
  rw [e] at this
  exact this
theorem cut_core {rs rs' : List Row3} {i : Nat} {z : Row3} (h : cpAs (rs.set i z) rs') : cpAs (rs.take i ++ rs.drop (i + 1)) (rs'.take i ++ rs'.drop (i + 1)) := by
  unfold cpAs at *
  have h1 := congrArg (List.take i) h
  have h2 := congrArg (List.drop (i + 1)) h
  rw [← List.map_take, ← List.map_take] at h1
  rw [← List.map_drop, ← List.map_drop] at h2
  rw [List.take_set_of_le (Nat.le_refl i)] at h1
  rw [List.drop_set_of_lt (Nat.lt_succ_self i)] at h2
  rw [List.map_append, List.map_append, h1, h2]

set_option maxHeartbeats 12800000 in
set_option maxRecDepth 100000 in
theorem mchange_any (b mb N : Nat) (nm : ByteArray) (ats : List ByteArray) (id att : Int) (xv : V3) (w : World) (hst : St b mb N nm ats w) (hk : ats.length ≤ 6) (hN16 : N ≤ 16) (hatt : att < 9223372036854775808) (hxn : -9223372036854775808 ≤ xv.2.1 ∧ xv.2.1 < 9223372036854775808) :
    Calls Tryz.prog 9 #[.pointer (some ⟨b, 0, none⟩), .agg #[.int .i64 id, .int .i64 att], .agg #[.int .i64 xv.1, .int .i64 xv.2.1, .string xv.2.2]] w (StQ b mb (N + 1) nm ats w) := by
  have HST := hid hst
  obtain ⟨av, rv, fv, dv, ev, rs, ps, xs, n, hS, hne, hT, hF, hE, hN, hl, hO, hn, hp, hx, hxl, hf⟩ := hst
  obtain ⟨ao, acap, hva, -⟩ := hT.1.split
  obtain ⟨ro, rcap, hvr, -⟩ := RdR.split hT.2
  simp only at hva hvr
  subst hva hvr
  have hML := fds_len (ps := ps) hk hxl
  obtain ⟨MM, hMM⟩ : ∃ MM, minO (qB ats.length ps) ats.length xs xs.length = MM := ⟨_, rfl⟩
  rw [hMM] at hf hML
  have HML := hid hML
  have hf2 := hf
  obtain ⟨fo, fcap, hfv, -⟩ := hf2
  subst hfv
  have b1 := below_alloc w (.cells #[.int .i64 id, .int .i64 att] 35)
  obtain ⟨e0, e1⟩ := cells2 (w := w) (a := .int .i64 id) (b := .int .i64 att) (t := 35) _ (Below.refl _ _)
  have s1 : (w.alloc (.cells #[.int .i64 id, .int .i64 att] 35)).heap.size = w.heap.size + 1 := by simp
  obtain ⟨w1, hw1⟩ : ∃ w1 : World, w.alloc (.cells #[.int .i64 id, .int .i64 att] 35) = w1 := ⟨_, rfl⟩
  rw [hw1] at b1 e0 e1 s1
  have b2 := below_alloc w1 (.cells #[.int .i64 xv.1, .int .i64 xv.2.1, .string xv.2.2] 37)
  obtain ⟨f0, f1, f2⟩ := cells3 (w := w1) (a := .int .i64 xv.1) (b := .int .i64 xv.2.1) (c := .string xv.2.2) (t := 37) _ (Below.refl _ _)
  have s2 : (w1.alloc (.cells #[.int .i64 xv.1, .int .i64 xv.2.1, .string xv.2.2] 37)).heap.size = w1.heap.size + 1 := by simp
  obtain ⟨w0, hw0⟩ : ∃ w0 : World, w1.alloc (.cells #[.int .i64 xv.1, .int .i64 xv.2.1, .string xv.2.2] 37) = w0 := ⟨_, rfl⟩
  rw [hw0] at b2 f0 f1 f2 s2
  rw [s1] at f0 f1 f2
  have B0 := hid (b1.trans (b2.mono b1.size))
  have HS0 := hid (show w0.heap.size = w.heap.size + 2 by omega)
  have W0 := hid (show (w.alloc (.cells #[.int .i64 id, .int .i64 att] 35)).alloc (.cells #[.int .i64 xv.1, .int .i64 xv.2.1, .string xv.2.2] 37) = w0 by rw [hw1, hw0])
  have S0 := hid (hS.below B0.out)
  have T0 := hid (hT.below B0.out)
  have SK := hid (fun (W : World) (h : Below w0.heap.size w0 W) => S0.out.below h)
  have XK := hid (fun (W : World) (h : Below w0.heap.size w0 W) => show (W.cell? ⟨w.heap.size, 0, none⟩ = some (.int .i64 id) ∧ W.cell? ⟨w.heap.size, 1, none⟩ = some (.int .i64 att)) ∧ W.cell? ⟨w.heap.size + 1, 0, none⟩ = some (.int .i64 xv.1) ∧ W.cell? ⟨w.heap.size + 1, 1, none⟩ = some (.int .i64 xv.2.1) ∧ W.cell? ⟨w.heap.size + 1, 2, none⟩ = some (.string xv.2.2) from by
    have k1 : ∀ (o : Nat) (v : Value), w1.cell? ⟨w.heap.size, o, none⟩ = some v → W.cell? ⟨w.heap.size, o, none⟩ = some v := fun o v hv => (h.cell (p := ⟨w.heap.size, o, none⟩) (by show w.heap.size < _; omega)).trans ((b2.cell (p := ⟨w.heap.size, o, none⟩) (by show w.heap.size < _; omega)).trans hv)
    have k2 : ∀ (o : Nat) (v : Value), w0.cell? ⟨w.heap.size + 1, o, none⟩ = some v → W.cell? ⟨w.heap.size + 1, o, none⟩ = some v := fun o v hv => (h.cell (p := ⟨w.heap.size + 1, o, none⟩) (by show w.heap.size + 1 < _; omega)).trans hv
    exact ⟨⟨k1 _ _ e0, k1 _ _ e1⟩, k2 _ _ f0, k2 _ _ f1, k2 _ _ f2⟩)
  have CH := hid (fun (W : World) (h : Below w0.heap.size w0 W) => (tchange_any (nm, ats, rs) (.slice ao ats.length acap) (.slice ro rs.length rcap) id att xv W (T0.out.below h) hE hatt).mono fun e w' h => h.res)
  have FI := hid (fun (W : World) (h : Below w0.heap.size w0 W) => find_any (nm, ats, rs) (.slice ao ats.length acap) (.slice ro rs.length rcap) id W (T0.out.below h))
  have ZA := hid (show Below w0.heap.size w0 ((w0.drewN 1).alloc (.cells #[.string (ByteArray.mk #[]), .slice none 0 0, .slice none 0 0] 48)) from (below_drewN w0.heap.size w0 1).alloc (by simp) _)
  have ZLT := hid (show w0.heap.size < ((w0.drewN 1).alloc (.cells #[.string (ByteArray.mk #[]), .slice none 0 0, .slice none 0 0] 48)).heap.size from by simp)
  have ka : ∀ o, StC (w0.alloc o) b mb nm (.slice ao ats.length acap) (.slice ro rs.length rcap) (.slice fo MM.length fcap) dv ev := fun o => SK.out _ (below_alloc w0 o)
  have ka0 := fun o => (ka o).c0
  have ka1 := fun o => (ka o).c1
  have ka2 := fun o => (ka o).c2
  have kx := fun o => XK.out _ (below_alloc w0 o)
  have kr0 := fun o => (kx o).1.1
  have kr1 := fun o => (kx o).1.2
  have kv0 := fun o => (kx o).2.1
  have kv1 := fun o => (kx o).2.2.1
  have kv2 := fun o => (kx o).2.2.2
  obtain ⟨⟨m0, m1⟩, v0, v1, v2⟩ := XK.out w0 (Below.refl _ _)
  have HXN := hid hxn
  have HF := hid hF
  have HE := hid hE
  have HN := hid hN
  have HL := hid hl
  have HO := hid (hO.below B0.out)
  have HNN := hid hn
  have HP := hid hp
  have HFD := hid (RdC.below hf B0.out)
  have HK := hid hk
  have HNE := hid hne
  have HN16 := hid hN16
  have BLT := hid hS.lt
  have MLT := hid hO.lt
  obtain ⟨c0, c1, c2, c3, c4, c5, c6, cf⟩ := S0.out
  have l0 : (rs.length : Int) ≤ 16 := by omega
  clear hS hT hF hE hN hl hO hn hp hx hxl hf hne hML hMM hk hN16 ka kx hxn hatt b1 b2 e0 e1 f0 f1 f2 s1 s2 hw1 hw0
  go_enter Tryz.func9, Tryz.ntmps9
  go_upto_region 1 with fail
  rw [W0.out]
  go_cut [7, 8] (fun s7 s8 wx => ∃ (q : Nat) (x : Int) (n' : ByteArray) (ao' : Option Addr) (an ac : Nat) (ro' : Option Addr) (rn rc : Nat), s7 = .pointer (some ⟨q, 0, none⟩) ∧ s8 = .int .i64 x ∧ BoxT (chR rs ats.length id att xv) nm ats w0 wx q x n' (.slice ao' an ac) (.slice ro' rn rc))
  case first =>
    go_region_law (first
      | (go_simp; go_at_call 32; refine (CH.out _ (below_drewN w0.heap.size w0 1)).mono ?_; rintro e w2 ⟨n2, ao2, an2, ac2, ro2, rn2, rc2, x2, rfl, hok, hb2⟩; have BX := hid (BoxT.alloc (nm := nm) (ats := ats) (R := chR rs ats.length id att xv) (below_drewN w0.heap.size w0 1) hb2 hok); clear hok hb2)
      | (go_simp; go_at_call 32; refine (CH.out _ ZA.out).mono ?_; rintro e w2 ⟨n2, ao2, an2, ac2, ro2, rn2, rc2, x2, rfl, hok, hb2⟩; obtain ⟨z0, z1, z2, zf⟩ := zcells (w := w0) hb2; have zf0 := zf 0; have zf1 := zf 1; have zf2 := zf 2; have BX := hid (BoxT.store (nm := nm) (ats := ats) (R := chR rs ats.length id att xv) ZA.out hb2 (Nat.le_refl _) ZLT.out z0 z1 z2 hok); clear hok hb2 zf))
    all_goals (go_wp2_with fail; go_meet; exact ⟨_, _, _, _, _, _, _, _, _, rfl, rfl, BX.out⟩)
  case rest =>
   obtain ⟨qb, x2, n2, ao2, an2, ac2, ro2, rn2, rc2, rfl, rfl, hbx⟩ := hcut
   have BX := hid hbx
   have SC := hid (SK.out wc BX.out.below)
   obtain ⟨d0, d1, d2, d3, d4, d5, d6, df⟩ := SC.out
   have MC := hid (XK.out wc BX.out.below)
   obtain ⟨⟨m0c, m1c⟩, -⟩ := MC.out
   clear ka0 ka1 ka2 kr0 kr1 kv0 kv1 kv2 m0 m1 v0 v1 v2 c0 c1 c2 c3 c4 c5 c6 cf hbx
   by_cases hx0 : x2 = 0
   · subst hx0
     obtain ⟨rfl, rs', ⟨i, a, r, hfnd, hr, hrid, hatt', hal, hbv, hcp⟩, hT', hF'⟩ := BX.out.ok rfl
     have HT' := hid hT'
     have HF' := hid hF'
     obtain ⟨ao9, acap9, he9, -⟩ := hT'.1.split
     simp only [Value.slice.injEq] at he9
     obtain ⟨rfl, rfl, rfl⟩ := he9
     obtain ⟨ro8x, rc8x, he8, -⟩ := RdR.split hT'.2
     simp only [Value.slice.injEq] at he8
     obtain ⟨rfl, rfl, rfl⟩ := he8
     obtain ⟨rid, ru, rys⟩ := r
     simp only at hrid
     subst hrid
     have hil := (List.getElem?_eq_some_iff.1 hr).1
     have i0 : (0 : Int) ≤ (i : Int) := by omega
     have i1 : (i : Int) < (rs.length : Int) := by omega
     have hlen : rs'.length = rs.length := by rw [hcp.len, List.length_set]
     have i2 : (i : Int) < (rs'.length : Int) := by omega
     have hil' : i < rs'.length := by omega
     obtain ⟨⟨yid, yu, yys⟩, hy⟩ : ∃ y, rs'[i]? = some y := ⟨_, List.getElem?_eq_getElem hil'⟩
     obtain ⟨hq1, hq2, hq3, hq4⟩ := down_ok HE.out hr HP.out (by have := HL.out; have := HN16.out; omega)
     simp only at hq1 hq2 hq4
     have hE' := cp_valid hcp (set_valid HE.out hr hbv)
     have VAL := hid hE'
     have NUM := hid (cp_num hcp (set_num HN.out hr HXN.out))
     have PQ : (pairsS (rs.take i ++ rs.drop (i + 1))).Perm (pairsS (rs'.take i ++ rs'.drop (i + 1))) := by rw [pairsS_core (cut_core hcp)]
     obtain ⟨hu1, hu2, hu3⟩ := up_ok hE' hy PQ hq3 (by have := HL.out; have := HN16.out; omega)
     simp only at hu1 hu2 hu3
     have TC := hid (T0.out.below BX.out.below)
     obtain ⟨rb, roff, hro, e0, e1, hrv⟩ := TC.out.2.at hr
     simp only at hro e0 e1 hrv
     subst hro
     obtain ⟨uo, ucap, hru, -⟩ := RdV.split hrv
     subst hru
     obtain ⟨nb, noff, hno, y0, y1, hyv⟩ := hT'.2.at hy
     simp only at hno y0 y1 hyv
     subst hno
     obtain ⟨vo, vcap, hyu, -⟩ := RdV.split hyv
     subst hyu
     have hrl : rys.length ≤ 16 := by
       obtain ⟨-, h16, -, -, hrow⟩ := tabE_iff.1 HE.out
       have := ((rowsE_iff.1 hrow).2 _ (List.mem_of_getElem? hr)).1
       simp only at this h16
       omega
     have hyl : yys.length ≤ 16 := by
       obtain ⟨-, h16, -, -, hrow⟩ := tabE_iff.1 hE'
       have := ((rowsE_iff.1 hrow).2 _ (List.mem_of_getElem? hy)).1
       simp only at this h16
       omega
     have HLEN := hid hlen
     obtain ⟨pq, hpq⟩ : ∃ pq, pairsS (rs.take i ++ rs.drop (i + 1)) = pq := ⟨_, rfl⟩
     rw [hpq] at hq1 hq2 hu1 hu2
     have FC := hid (FI.out (wc.drewN 1) (BX.out.below.trans (below_drewN _ wc 1)))
     have FC' := hid (FI.out wc.drew (BX.out.below.trans (below_drewN _ wc 1)))
     have hfv : fndV (fnd (n2, ats, rs).2.2 rid) = .tuple #[.int .i64 (i : Int), .bool true] := by rw [show fnd (n2, ats, rs).2.2 rid = some i from hfnd]; rfl
     rw [hfv] at FC FC'
     have bq : b ≠ qb := by have h1 := BX.out.lo; have h2 := BLT.out; have h3 := HS0.out; omega
     have fb := HF'.out b (by have h2 := BLT.out; have h3 := HS0.out; omega)
     have fm := HF'.out mb (by have h2 := MLT.out; have h3 := HS0.out; omega)
     have FB := hid (And.intro fb fm)
     have QC := hid (And.intro BX.out.c0 (And.intro BX.out.c1 BX.out.c2))
     have HRX := hid (List.mem_of_getElem? hr)
     have HYX := hid (List.mem_of_getElem? hy)
     have HY := hid hy
     have Q1 := hid hq1
     have Q2 := hid hq2
     have Q4 := hid hq4
     have U1 := hid hu1
     have U2 := hid hu2
     have U3 := hid hu3
     have HRV := hid hrv
     have HRL := hid hrl
     have HYV := hid hyv
     have HYL := hid hyl
     have Y0 := hid y0
     have Y1 := hid y1
     clear hfnd hr hy hcp hT' hF' hil hil' hq1 hq2 hq4 hu1 hu2 hu3 hrv hyv hpq hfv df hrl hyl hq3 hE' hlen hal hbv hatt' PQ y0 y1
     have BD := hid (below_drewN wc.heap.size wc 1)
     go_upto_region 4 with fail
     have HWB : ∃ wb : World, wb = wc := ⟨_, rfl⟩
     obtain ⟨wb, hwb⟩ := HWB
     subst hwb
     go_cut [9] (fun s9 wx => s9 = .int .i64 (i : Int) ∧ Below wb.heap.size wb wx)
     case first =>
       go_region_law (first
         | (go_simp; go_at_call 28; refine FC.out.mono ?_; rintro e w3 ⟨rfl, hb3⟩; have XB := hid (BD.out.trans (hb3.mono (by simp)))))
       all_goals (go_wp2_with fail; go_meet; exact ⟨rfl, XB.out⟩)
     case rest =>
      obtain ⟨rfl, hb3⟩ := hcut
      have B3 := hid hb3
      have S3 := hid (SC.out.below hb3)
      obtain ⟨g0, g1, g2, g3, g4, g5, g6, gf⟩ := S3.out
      have k0 := (hb3.cell (p := ⟨rb, roff + i * 2, none⟩) (World.block_lt_of_cell? _ _ e0)).trans e0
      have k1 := (hb3.cell (p := ⟨rb, roff + i * 2 + 1, none⟩) (World.block_lt_of_cell? _ _ e1)).trans e1
      have TC3 := hid (TC.out.below hb3)
      have RV3 := hid (RdC.below HRV.out hb3)
      have O3 := ((HO.out.below BX.out.below).below hb3).congr (fun s => count_perm Q1.out s) (fun s => has_perm Q1.out s)
      have HFm := HF.out mb (.inr rfl)
      have HFb := HF.out b (.inl rfl)
      have CNT := hid (mcount_any b mb n rs (.slice (some ⟨rb, roff, none⟩) rs.length rcap) (.slice uo rys.length ucap) rid (-1) rys _ wc S3.out.c2 S3.out.c3 HNE.out TC3.out.2 HFm.2.1 HFm.2.2.2 RV3.out (HFm.2.2.2 _ HRX.out) Q4.out (by have := HRL.out; omega) (by have := HL.out; have := HN16.out; omega) Q2.out (.inr rfl) O3 (by have := HNN.out; have := HN16.out; omega))
      rw [dnL_end] at CNT
      clear O3 HFm HFb e0 e1 d0 d1 d2 d3 d4 d5 d6 hb3
      go_wp2_with fail
      refine CNT.out.mono ?_
      rintro e w4 ⟨rfl, n5, ho5, hn5, hg5⟩
      have hnm : some b ≠ some mb := by simp; exact HNE.out
      have S4 := hid (S3.out.far hg5 hnm)
      have qlt : qb < wb.heap.size := World.block_lt_of_cell? _ _ QC.out.1
      have qm : some qb ≠ some mb := by simp; have h1 := BX.out.lo; have h2 := MLT.out; have h3 := HS0.out; omega
      have qk : ∀ (o : Nat) (v : Value), wb.cell? ⟨qb, o, none⟩ = some v → w4.cell? ⟨qb, o, none⟩ = some v := fun o v hv => (hg5.cell_far ⟨qb, o, none⟩ (Nat.lt_of_lt_of_le qlt B3.out.size) qm).trans ((B3.out.cell (p := ⟨qb, o, none⟩) qlt).trans hv)
      have q0 := qk _ _ QC.out.1
      have q1 := qk _ _ QC.out.2.1
      have q2 := qk _ _ QC.out.2.2
      have G4 := hid hg5
      have N4 := hid hn5
      obtain ⟨a0, a1, a2, a3, a4, a5, a6, af⟩ := S4.out
      have af0 := af 0
      have af1 := af 1
      have af2 := af 2
      obtain ⟨w5, hw5⟩ : ∃ w5 : World, ((w4.setCell ⟨b, 0, none⟩ (.string n2)).setCell ⟨b, 1, none⟩ (.slice ao2 ats.length ac2)).setCell ⟨b, 2, none⟩ (.slice (some ⟨nb, noff, none⟩) rs'.length rc2) = w5 := ⟨_, rfl⟩
      have S5 : StC w5 b mb n2 (.slice ao2 ats.length ac2) (.slice (some ⟨nb, noff, none⟩) rs'.length rc2) (.slice fo MM.length fcap) dv ev := by rw [← hw5]; exact S4.out.setT n2 _ _
      have G5 : w4.grownBy w5 (some b) := by rw [← hw5]; exact grow_trans' (grow_trans' (grown_setM w4 ⟨b, 0, none⟩ _) (grown_setM _ ⟨b, 1, none⟩ _)) (grown_setM _ ⟨b, 2, none⟩ _)
      obtain ⟨fb, fm⟩ := FB.out
      have T3' := HT'.out.below B3.out
      have T5 : RdT w5 (.slice ao2 ats.length ac2) (.slice (some ⟨nb, noff, none⟩) rs'.length rc2) (n2, ats, rs') := ⟨RdE.grown (RdE.grown T3'.1 hg5 fm.1) G5 fb.1, RdC.grown (RdC.grown T3'.2.1 hg5 fm.2.1) G5 fb.2.1, fun r hr => RdC.grown (RdC.grown (T3'.2.2 r hr) hg5 (fm.2.2 r hr)) G5 (fb.2.2 r hr)⟩
      have F5 := hid (RdC.grown (RdC.grown (RdC.below (RdC.below HFD.out BX.out.below) B3.out) hg5 (HF.out mb (.inr rfl)).2.2.1) G5 (HF.out b (.inl rfl)).2.2.1)
      have O5 : OwnC w5 mb n5 (cntF (upL pq rs' yid yys 0)) (memB (upL pq rs' yid yys 0)) := by rw [upL_zero]; exact ho5.kept G5 (by simp; exact fun e => HNE.out e.symm)
      have T5H := hid T5
      have S5H := hid S5
      obtain ⟨nb', noff', hno', z0, z1, -⟩ := T5.2.at HY.out
      simp only [Option.some.injEq, Addr.mk.injEq] at hno' z0 z1
      obtain ⟨rfl, rfl, -⟩ := hno'
      obtain ⟨t0, t1, t2, t3, -, -, -, -⟩ := S5
      have YV5 := RdC.grown (RdC.grown (RdC.below HYV.out B3.out) hg5 (fm.2.2 _ HYX.out)) G5 (fb.2.2 _ HYX.out)
      have CNU := hid (mcount_any b mb n5 rs' (.slice (some ⟨nb, noff, none⟩) rs'.length rc2) (.slice vo yys.length vcap) yid 1 yys (upL pq rs' yid yys) w5 S5H.out.c2 S5H.out.c3 HNE.out T5.2 fm.2.1 fm.2.2 YV5 (fm.2.2 _ HYX.out) U3.out (by have := HYL.out; omega) (by have := HL.out; have := HN16.out; have := HLEN.out; omega) U1.out (.inl rfl) O5 (by have := HNN.out; have := HN16.out; have := HL.out; have := N4.out; omega))
      have BB := hid (fun (B : Nat) (h1 : B ≤ b) (h2 : B ≤ mb) (h3 : B ≤ w.heap.size) => show Below B w w5 from by
        have e1 : Below B w wc := ((B0.out.trans (BX.out.below.mono B0.out.size)).trans (B3.out.mono (B0.out.trans (BX.out.below.mono B0.out.size)).size)).mono h3
        have e2 := grow_belowM G4.out h2 (Nat.le_trans h3 e1.size)
        exact (e1.trans e2).trans (grow_belowM G5 h1 (Nat.le_trans h3 (Nat.le_trans e1.size e2.size))))
      have W5 := hid hw5
      clear G5 T5 O5 ho5 hn5 hg5 fb fm T3' hw5 qk g0 g1 g2 g3 g4 g5 g6 k0 k1 gf YV5
      go_upto_region 7 with fail
      rw [W5.out]
      go_wp2_with fail
      refine CNU.out.mono ?_
      rintro e w6 ⟨rfl, n7, ho7, hn7, hg7⟩
      obtain ⟨fb, fm⟩ := FB.out
      have S7 := S5H.out.far hg7 hnm
      have T7 : RdT w6 (.slice ao2 ats.length ac2) (.slice (some ⟨nb, noff, none⟩) rs'.length rc2) (n2, ats, rs') := ⟨RdE.grown T5H.out.1 hg7 fm.1, RdC.grown T5H.out.2.1 hg7 fm.2.1, fun r hr => RdC.grown (T5H.out.2.2 r hr) hg7 (fm.2.2 r hr)⟩
      have F7 := RdC.grown F5.out hg7 (HF.out mb (.inr rfl)).2.2.1
      have REN := hid (ren_st (N := N + 1) S7 HNE.out T7 (fun j hj => by
        rcases hj with rfl | rfl
        · exact ⟨fb.1, fb.2.1, (HF.out _ (.inl rfl)).2.2.1, fb.2.2⟩
        · exact ⟨fm.1, fm.2.1, (HF.out _ (.inr rfl)).2.2.1, fm.2.2⟩) VAL.out NUM.out (by have := HL.out; have := HLEN.out; omega) ho7 (by have h1 := HNN.out; have h2 := HLEN.out; have h3 := HL.out; have h4 := HN16.out; have h5 := N4.out; omega) U2.out HK.out F7 HML.out)
      have B7 := hid (fun (B : Nat) (h1 : B ≤ b) (h2 : B ≤ mb) (h3 : B ≤ w.heap.size) => show Below B w w6 from (BB.out B h1 h2 h3).trans (grow_belowM hg7 h2 (Nat.le_trans h3 (BB.out B h1 h2 h3).size)))
      clear S7 T7 F7 fb fm ho7 hn7 hg7 z0 z1 t0 t1 t2 t3 q0 q1 q2 a0 a1 a2 a3 a4 a5 a6 af af0 af1 af2
      go_wp2_with fail
      refine REN.out.mono ?_
      rintro e w8 ⟨rfl, hst8, hg8⟩
      have ST8 := hid hst8
      have B8 := hid (fun (B : Nat) (h1 : B ≤ b) (h2 : B ≤ mb) (h3 : B ≤ w.heap.size) => show Below B w w8 from (B7.out B h1 h2 h3).trans (grow_belowM hg8 h1 (Nat.le_trans h3 (B7.out B h1 h2 h3).size)))
      clear hst8 hg8
      go_wp2_with fail
      go_ret
      exact ⟨⟨0, rfl⟩, ST8.out, B8.out⟩
   · have hxt : (x2 != (0 : Int)) = true := by simpa using hx0
     have ST2 := hid ((HST.out.below (B0.out.trans (BX.out.below.mono B0.out.size))).more (Nat.le_succ N))
     have B2 := hid (fun (B : Nat) (h1 : B ≤ b) (h2 : B ≤ mb) (h3 : B ≤ w.heap.size) => show Below B w wc from (B0.out.trans (BX.out.below.mono B0.out.size)).mono h3)
     go_wp2_with fail
     go_ret
     exact ⟨⟨x2, rfl⟩, ST2.out, B2.out⟩

end Go.Proofs.YtdiafhbbmliefaaGreatDoor


/- The walk of maintain.New. -/
namespace Go.Proofs.YtdiafhbbmliefaaGreatDoor
open Go.RowKit
set_option linter.unusedVariables false

theorem new_box {nm : ByteArray} {ats : List ByteArray} {B : Nat} {w : World} {o : Option Addr} {cap : Nat} (h : w.ownsRow B 9 1 (.slice o ats.length cap) ats.length (ats.flatMap cT1)) (hl : ats.length ≤ 6) :
    (0 : Int) = 0 → nm = nm ∧ ∃ rs' : List Row3, rs' = [] ∧ RdT w (.slice o ats.length cap) (.slice none 0 0) (nm, ats, rs') ∧ FreT B (.slice o ats.length cap) (.slice none 0 0) rs' := fun _ =>
  ⟨rfl, [], rfl, ⟨RdC.to_texts (RdC.of_owns cT1_length h (Nat.le_trans hl (by decide))), RdC.nil _ _, fun _ h => absurd h (by simp)⟩, fun j hj => ⟨far_own h hj, far_own (World.ownsRow_nil w B 44 2) hj, fun _ h => absurd h (by simp)⟩⟩

theorem far_ge {w : World} {α : Type} {c : α → List Value} {v : Value} {xs : List α} (h : RdC c w v xs) {j : Nat} (hj : w.heap.size ≤ j) : FarV v (some j) := by
  intro a len cap e1 hl e2
  obtain ⟨ao', cap', e3, -, -, h3⟩ := h
  rw [e3] at e1; cases e1
  obtain ⟨b, off, e4, hlt, -⟩ := h3 hl
  cases e4; cases e2
  exact absurd hlt (Nat.not_lt.2 hj)
/-- The cells of a fresh state. -/
theorem st_new {w : World} {nm : ByteArray} {av : Value} : StC ((w.alloc (.map #[] 0)).alloc (.cells #[.string nm, av, .slice none 0 0, .map (some w.heap.size), .slice none 0 0, .slice none 0 0, .slice none 0 0] 77)) (w.heap.size + 1) w.heap.size nm av (.slice none 0 0) (.slice none 0 0) (.slice none 0 0) (.slice none 0 0) := by
  have hs : (w.alloc (.map #[] 0)).heap.size = w.heap.size + 1 := by simp
  obtain ⟨w1, hw1⟩ : ∃ w1 : World, w.alloc (.map #[] 0) = w1 := ⟨_, rfl⟩
  rw [hw1] at hs ⊢
  rw [← hs]
  exact ⟨by simp, by simp, by simp, by simp, by simp, by simp, by simp, fun j => World.frozen?_alloc_new w1 _ _ j⟩

set_option maxHeartbeats 12800000 in
set_option maxRecDepth 100000 in
theorem mnew_any (nm : ByteArray) (ats : List ByteArray) (av : Value) (w : World) (ha : RdE encT w av ats) (hk : ats.length ≤ 6) (hE : tabE (nm, ats, []) = 0) :
    Calls Tryz.prog 5 #[.string nm, av] w fun e w' => ∃ b mb, e = .returned (.tuple #[.pointer (some ⟨b, 0, none⟩), .int .i64 0]) ∧ St b mb 0 nm ats w' ∧ w.heap.size ≤ b ∧ w.heap.size ≤ mb ∧ Below w.heap.size w w' := by
  have hmm := @run_makeMap Tryz.prog
  obtain ⟨ao, acap, rfl, -⟩ := ha.split
  have HA := hid (RdE.to_cells ha)
  have CT := hid (fun (W : World) (h : Below w.heap.size w W) => cloneT_any ats (.slice ao ats.length acap) W (RdC.below HA.out h) (by omega))
  have ZA := hid (show Below w.heap.size w ((w.drewN 1).alloc (.cells #[.string (ByteArray.mk #[]), .slice none 0 0, .slice none 0 0] 48)) from (below_drewN w.heap.size w 1).alloc (by simp) _)
  have ZLT := hid (show w.heap.size < ((w.drewN 1).alloc (.cells #[.string (ByteArray.mk #[]), .slice none 0 0, .slice none 0 0] 48)).heap.size from by simp)
  have l0 : (ats.length : Int) ≤ 6 := by omega
  have HE := hid hE
  have HK := hid hk
  clear ha hE hk
  go_enter Tryz.func5, Tryz.ntmps5
  go_wp2_with fail
  refine (CT.out w (Below.refl _ _)).mono ?_
  rintro e w2 ⟨v2, rfl, ho2, hb2⟩
  obtain ⟨o2, cap2, rfl, -⟩ := RdC.of_owns cT1_length ho2 (by have := HK.out; omega)
  go_upto_region 2 with fail
  have BX0 := hid (BoxT.alloc (x := 0) (nm := nm) (ats := ats) (R := fun rs => rs = []) (Below.refl w.heap.size w) hb2 (new_box ho2 HK.out))
  obtain ⟨wc, hwc⟩ : ∃ wc : World, w2.alloc (.cells #[.string nm, .slice o2 ats.length cap2, .slice none 0 0] 48) = wc := ⟨_, rfl⟩
  obtain ⟨qb, hqb⟩ : ∃ qb : Nat, w2.heap.size = qb := ⟨_, rfl⟩
  rw [hwc, hqb] at BX0
  have WC := hid hwc
  have QB := hid hqb
  have BX := hid BX0.out
  have q0 := BX.out.c0
  have q1 := BX.out.c1
  have q2 := BX.out.c2
  obtain ⟨-, rs9, rfl, hT9, hF9⟩ := BX.out.ok rfl
  have HT := hid hT9
  have HF := hid hF9
  have TV := hid (tvalid_any (nm, ats, []) (.slice o2 ats.length cap2) (.slice none 0 0) wc hT9)
  rw [HE.out] at TV
  clear hT9 hF9 BX0 ho2 hb2
  rw [WC.out, QB.out]
  go_wp2_with fail
  refine TV.out.mono ?_
  rintro e w3 ⟨rfl, hb3⟩
  have B3 := hid hb3
  have qlt : qb < wc.heap.size := World.block_lt_of_cell? _ _ q0
  have p0 := (hb3.cell (p := ⟨qb, 0, none⟩) qlt).trans q0
  have p1 := (hb3.cell (p := ⟨qb, 1, none⟩) qlt).trans q1
  have p2 := (hb3.cell (p := ⟨qb, 2, none⟩) qlt).trans q2
  clear hb3
  go_wp2_with fail
  obtain ⟨wS, hwS⟩ : ∃ wS : World, (w3.alloc (.map #[] 0)).alloc (.cells #[.string nm, .slice o2 ats.length cap2, .slice none 0 0, .map (some w3.heap.size), .slice none 0 0, .slice none 0 0, .slice none 0 0] 77) = wS := ⟨_, rfl⟩
  have SS := hid (hwS ▸ st_new (w := w3) (nm := nm) (av := .slice o2 ats.length cap2))
  have hs1 : (w3.alloc (.map #[] 0)).heap.size = w3.heap.size + 1 := by simp
  have bm := below_alloc w3 (.map #[] 0)
  have bs := below_alloc (w3.alloc (.map #[] 0)) (.cells #[.string nm, .slice o2 ats.length cap2, .slice none 0 0, .map (some w3.heap.size), .slice none 0 0, .slice none 0 0, .slice none 0 0] 77)
  have OM : OwnC wS w3.heap.size 0 (cntF []) (memB []) := by
    rw [← hwS]
    have h1 : OwnC (w3.alloc (.map #[] 0)) w3.heap.size 0 (cntF []) (memB []) := OwnK.made.congr (fun s => rfl) (fun s => by simp [memB])
    exact h1.below bs
  have BS := hid (show Below wc.heap.size wc wS from by rw [← hwS]; exact B3.out.trans ((bm.trans (bs.mono bm.size)).mono B3.out.size))
  rw [hwS]
  have MI := hid (mmin_any (w3.heap.size + 1) w3.heap.size 0 ats.length [] o2 cap2 wS SS.out.c1 SS.out.c3 OM HK.out)
  have OMH := hid OM
  have HS3 := hid (show w3.heap.size + 1 < wS.heap.size from SS.out.lt)
  clear OM bm bs hs1 hwS p0 p1 p2
  refine MI.out.mono ?_
  rintro e w4 ⟨v4, xs, rfl, hord, hxl, hown, hb4⟩
  have ML := hid (fds_len (ps := []) HK.out hxl)
  obtain ⟨MM, hMM⟩ : ∃ MM, minO (qB ats.length []) ats.length xs xs.length = MM := ⟨_, rfl⟩
  rw [hMM] at hown ML
  have HMM := hid hMM
  have HO := hid hown
  have HORD := hid hord
  have HXL := hid hxl
  have B4 := hid hb4
  have R4 := hid (RdC.of_owns cF_length hown (by have := ML.out; omega))
  obtain ⟨o4, cap4, rfl, -⟩ := R4.out
  have S4 := hid (SS.out.below hb4)
  have S5 := hid (S4.out.set4 (.slice o4 MM.length cap4))
  obtain ⟨d0, d1, d2, d3, d4, d5, d6, df⟩ := S4.out
  have df4 := df 4
  obtain ⟨w5, hw5⟩ : ∃ w5 : World, w4.setCell ⟨w3.heap.size + 1, 4, none⟩ (.slice o4 MM.length cap4) = w5 := ⟨_, rfl⟩
  have G5 := hid (show w4.grownBy w5 (some (w3.heap.size + 1)) from hw5 ▸ grown_setM w4 ⟨w3.heap.size + 1, 4, none⟩ _)
  rw [hw5] at S5
  have W5 := hid hw5
  clear hMM hown hord hxl hb4 hw5 df
  go_wp2_with fail
  rw [W5.out]
  go_ret2
  have hlo : wc.heap.size ≤ w3.heap.size := B3.out.size
  have hw : w.heap.size ≤ wc.heap.size := BX.out.below.size
  have ha := HT.out.1
  have BB : Below w.heap.size w w5 := by
    have e1 : Below w.heap.size w wS := BX.out.below.trans (BS.out.mono hw)
    exact (e1.trans (B4.out.mono e1.size)).trans (grow_belowM G5.out (by omega) (by have := e1.size; have := B4.out.size; omega))
  have FA : ∀ j, j = w3.heap.size + 1 ∨ j = w3.heap.size → FarV (.slice o2 ats.length cap2) (some j) := fun j hj => far_ge (RdE.to_cells ha) (by rcases hj with rfl | rfl <;> omega)
  have FN : ∀ j, FarV (.slice none 0 0) (some j) := fun j => far_own (World.ownsRow_nil w (j + 1) 44 2) (Nat.lt_succ_self j)
  have F4 : ∀ j, j = w3.heap.size + 1 ∨ j = w3.heap.size → FarV (.slice o4 MM.length cap4) (some j) := fun j hj => far_own HO.out (by have := HS3.out; rcases hj with rfl | rfl <;> omega)
  refine ⟨_, _, rfl, ⟨.slice o2 ats.length cap2, .slice none 0 0, .slice o4 MM.length cap4, _, _, [], [], xs, 0, S5.out, by omega, ⟨RdE.grown (RdE.below (RdE.below ha BS.out) B4.out) G5.out (FA _ (.inl rfl)), RdC.nil _ _, fun _ h => absurd h (by simp)⟩, fun j hj => ⟨FA j hj, FN j, F4 j hj, fun _ h => absurd h (by simp)⟩, HE.out, fun _ h => absurd h (by simp), Nat.le_refl _, (OMH.out.below B4.out).kept G5.out (by simp), by omega, List.Perm.refl _, HORD.out, HXL.out, ?_⟩, by omega, by omega, BB⟩
  rw [HMM.out]
  exact RdC.grown R4.out G5.out (F4 _ (.inl rfl))

end Go.Proofs.YtdiafhbbmliefaaGreatDoor

