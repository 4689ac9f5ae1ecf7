/- The laws of chapter 22 over described lists: More, Traced, Within. -/
import Derived.Test.YtciamnkalmihcaaDoorLaws22b
namespace Go.Proofs.YtciamnkalmihcaaDoor
open Go.RowKit

attribute [local irreducible] Go.wpQuiet

set_option maxHeartbeats 1600000 in
set_option maxRecDepth 100000 in
theorem pTracedL (n : U8) (u : Value) (v : Value) (i : U8) (w : World) (hT : Tab w) (h : ArgC cD w u) (hs : SizeLe u 1048576) (k : ArgL enc8 w v) (ks : SizeLe v 1048576) :
    Calls Tryd.prog 9 #[.agg #[enc8 n, u], v, .int .u8 (i.toNat : Int)] w fun e w' => e = .returned (.bool true) ∧ Below w.heap.size w w' := by
  have AW := hid (fun (W : World) (hb : Below w.heap.size w W) => awake22_any W (hT.below hb))
  obtain ⟨ao, len, cap, rfl, h⟩ := h
  have hlen := hs _ _ _ rfl
  obtain ⟨ds, hdl, hr⟩ := h (by omega)
  obtain ⟨bo, len2, bcap, rfl, k⟩ := k
  have hlen2 := ks _ _ _ rfl
  obtain ⟨bs, hbl, hk⟩ := k (by omega)
  clear hs h ks k
  obtain ⟨w0, hw0⟩ : ∃ w0 : World, w.alloc (.cells #[enc8 n, .slice ao len cap] 38) = w0 := ⟨_, rfl⟩
  have hb0 : Below w.heap.size w w0 := by rw [← hw0]; exact below_alloc _ _
  have B0 := hid hb0
  have OF := hid (of_any n _ ds w0 (hr.below hb0) (by omega))
  have W0 := hid hw0
  have hfl := listF_length (fullN (n.toNat % 7)) ds
  have hpl := partsS_length (fullN (n.toNat % 7)) bs
  have hx : (i.toNat : Int) < 256 := by have := i.isLt; omega
  have hx0 : (0 : Int) ≤ (i.toNat : Int) := by omega
  have hk6 : n.toNat % 7 ≤ 6 := by omega
  have PA := hid (fun (W : World) (hb : Below w.heap.size w W) => parts_any ((n.toNat % 7 : Nat) : Int) bs _ W (hk.below hb) (by omega))
  have FU := hid (fun (W : World) => full_any ((n.toNat % 7 : Nat) : Int) W)
  rw [full_k (by omega)] at PA FU
  have hw2 := w2_list (fullN (n.toNat % 7)) ds
  have hps := fun p (hp : p ∈ partsS (fullN (n.toNat % 7)) bs) => partsS_sub hp
  clear hr hw0 hb0 hk
  generalize n.toNat % 7 = k at *
  generalize listF (fullN k) ds = fs at *
  generalize partsS (fullN k) bs = ps at *
  have hfb : fs.length ≤ 1048576 := by omega
  have hpb : ps.length ≤ 1048576 := by omega
  have hf6 : ds.length ≤ 6 → fs.length ≤ 6 := by omega
  have hp4 : bs.length ≤ 4 → ps.length ≤ 4 := by omega
  clear hfl hpl
  by_cases hok : ds.length ≤ 6 ∧ bs.length ≤ 4
  · obtain ⟨hl, hl2⟩ := hok
    rw [decide_eq_true hl] at OF
    rw [decide_eq_true hl2] at PA
    have hp4 := hp4 hl2
    have KE := hid (fun (z : S) (x y : Value) (W : World) (hx : RdF W x fs) (hy : RdE enc W y ps) => kept_any fs ps z x y W hx hy)
    have TR := hid (fun (z : S) (x y : Value) (W : World) (hx : RdF W x fs) (hy : RdE enc W y ps) => ptrace_any fs ps z x y W hx hy)
    have CL := hid (fun (z : S) (x : Value) (W : World) (hx : RdF W x fs) (j : After W) => Calls.after j (refClose_any fs z x j.world (hx.below j.below)))
    clear hw2 hps hl hT
    generalize fullN k = A at *
    unfold enc8 at *
    obtain ⟨zz, hzz⟩ : ∃ zz, wd i &&& A = zz := ⟨_, rfl⟩
    have TZ := hid (trp_zero fs ps zz)
    have TN := hid (fun (j a : Nat) (z : S) (h : TrP fs ps zz j z) (hi : (followS fs ps zz).2[j]? = some a) => trp_next h hi)
    have TE := hid (fun (j : Nat) (z : S) (h : TrP fs ps zz j z) (hi : ¬ j < (followS fs ps zz).2.length) => trp_end h hi)
    have KE1 := hid (fun (x y : Value) (W : World) (hx : RdF W x fs) (hy : RdE enc W y ps) => show Calls Tryd.prog 22 #[x, y, enc (wd i &&& A)] W fun e w' => e = .returned (enc (keptS fs ps zz)) ∧ Below W.heap.size W w' by rw [hzz]; exact KE.out zz x y W hx hy)
    have TR1 := hid (fun (x y : Value) (W : World) (hx : RdF W x fs) (hy : RdE enc W y ps) => show Calls Tryd.prog 27 #[x, y, enc (wd i &&& A)] W fun e w' => ∃ v', e = .returned v' ∧ RdE encI w' v' (followS fs ps zz).2 ∧ Below W.heap.size W w' by rw [hzz]; exact TR.out zz x y W hx hy)
    have ZZ := hid hzz
    clear KE TR hzz
    generalize TrP fs ps zz = TP at *
    generalize keptS fs ps zz = kz at *
    generalize (followS fs ps zz).2 = tr at *
    simp only [enc_eq] at FU KE1 TR1 CL
    go_enter Tryd.func9, Tryd.ntmps9
    go_wp2_with fail
    rw [W0.out]
    refine OF.out.mono ?_
    rintro e w1 ⟨v1, rfl, ho1, hb1⟩
    have B1 := hid (B0.out.trans (hb1.mono B0.out.size))
    have R1 := hid (show RdF w1 v1 fs from RdC.of_owns cF_length ho1 (by omega))
    clear hb1 ho1 OF
    go_wp2_with fail
    refine (PA.out _ B1.out).mono ?_
    rintro e w2 ⟨v2, rfl, hr2, hb2⟩
    have B2 := hid (B1.out.trans (hb2.mono B1.out.size))
    replace R1 := hid (R1.out.below hb2)
    have R2 := hid hr2
    clear hr2
    clear hb2
    go_wp2_with fail
    refine (AW.out _ B2.out).mono ?_
    rintro e w3 ⟨rfl, hb3⟩
    have B3 := hid (B2.out.trans (hb3.mono B2.out.size))
    replace R1 := hid (R1.out.below hb3)
    replace R2 := hid (R2.out.below hb3)
    clear hb3
    go_wp2_with fail
    refine (FU.out _).mono ?_
    rintro e w' ⟨rfl, rfl⟩
    go_wp2_with fail
    refine (KE1.out _ _ _ R1.out R2.out).mono ?_
    rintro e w4 ⟨rfl, hb4⟩
    have B4 := hid (B3.out.trans (hb4.mono B3.out.size))
    replace R1 := hid (R1.out.below hb4)
    replace R2 := hid (R2.out.below hb4)
    clear hb4
    go_wp2_with fail
    refine (TR1.out _ _ _ R1.out R2.out).mono ?_
    rintro e w5 ⟨v5, rfl, hr5, hb5⟩
    have B5 := hid (B4.out.trans (hb5.mono B4.out.size))
    replace R1 := hid (R1.out.below hb5)
    replace R2 := hid (R2.out.below hb5)
    have R5 := hid hr5
    clear hr5
    clear hb5
    obtain ⟨po, pcap, rfl, hpl, hpc⟩ := R2.out.split
    obtain ⟨to, tcap, rfl, htl, htc⟩ := R5.out.split
    have PC := hid hpc
    have TC := hid htc
    clear hpc htc
    go_wp2_with fail
    go_loopw [12, 54] (fun x i wr => ∃ (j : Nat) (z : S), j ≤ tr.length ∧ i = .int .i64 j ∧ x = .int .u32 (iv z) ∧ Hid (TP j z) ∧ Below w5.heap.size w5 wr) (fun _ i _ => tr.length - (intOf i).toNat)
    case atStart => exact ⟨0, zz, Nat.zero_le _, rfl, by rw [← ZZ.out], TZ, Below.refl _ _⟩
    case round =>
      obtain ⟨j, z, hj, rfl, rfl, HT, hnx⟩ := hrel
      obtain ⟨wo, rfl⟩ : ∃ wo : World, wo = wr := ⟨_, rfl⟩
      by_cases hlt : j < tr.length
      · obtain ⟨a, ha⟩ := get_some hlt
        obtain ⟨b, off, rfl, hd⟩ := TC.out j a ha
        have e0 : wo.cell? ⟨b, off + j, none⟩ = some (.int .i64 (a : Int)) := hd wo hnx
        obtain ⟨p, hp, hal, hne, hT2⟩ := TN.out j a z HT.out ha
        obtain ⟨b', off', rfl, hpd⟩ := PC.out a p hp
        have H52 := hid hnx
        have HN := hid (B5.out.trans (hnx.mono B5.out.size))
        have e1 : ∀ i : After wo, i.world.cell? ⟨b', off' + a, none⟩ = some (.int .u32 (iv p)) := fun i => (R2.out.below (H52.out.trans (i.below.mono H52.out.size))) |> fun _ => by
          have hB : Below w5.heap.size w5 i.world := H52.out.trans (i.below.mono H52.out.size)
          exact hpd _ hB
        have C1 := hid (CL.out (z &&& p) _ wo (R1.out.below hnx))
        have a0 : decide ((a : Int) < 0) = false := by simp
        have a1 : decide ((a : Int) ≥ (ps.length : Int)) = false := by simp; omega
        have a2 : (0 : Int) ≤ (a : Int) := by omega
        have a3 : (a : Int) < (ps.length : Int) := by omega
        have T2 := hid hT2
        clear hd hpd hp ha hnx hT2
        generalize closeS fs (z &&& p) = c at *
        have NE := hid hne
        clear hne
        obtain ⟨fo, fcap, rfl⟩ := RdC.form R1.out
        go_wp2_with fail
        refine wp_region_after (by kernel_rfl) (by kernel_rfl) ?_
        repeat (any_goals (quiet_step (exact C1.out _)))
        refine wpQuiet_nil ?_
        intro wq hb
        have BQ := hid (H52.out.trans (hb.mono H52.out.size))
        have hne := NE.out
        clear hb e0 e1
        go_wp2_with fail
        go_roundw
        case rel => exact ⟨j + 1, z ||| c &&& p, by omega, by go_num, rfl, T2, BQ.out⟩
        case measure => simp [intOf]; omega
      · have TE1 := hid (TE.out j z HT.out hlt)
        have HN := hid (B5.out.trans (hnx.mono B5.out.size))
        clear hnx
        go_wp2_with fail
        go_ret
        exact ⟨ret_bool (by rw [TE1.out]; simp), HN.out⟩
  · unfold enc8 at *
    rcases (show ¬ ds.length ≤ 6 ∨ (ds.length ≤ 6 ∧ ¬ bs.length ≤ 4) by omega) with hl | ⟨hl, hl2⟩
    · rw [decide_eq_false hl] at OF
      generalize decide (bs.length ≤ 4) = q at *
      generalize fullN k = A at *
      go_enter Tryd.func9, Tryd.ntmps9
      go_wp2_with fail
      rw [W0.out]
      refine OF.out.mono ?_
      rintro e w1 ⟨v1, rfl, ho1, hb1⟩
      have B1 := hid (B0.out.trans (hb1.mono B0.out.size))
      clear hb1 ho1 OF
      go_wp2_with fail
      refine (PA.out _ B1.out).mono ?_
      rintro e w2 ⟨v2, rfl, hr2, hb2⟩
      have B2 := hid (B1.out.trans (hb2.mono B1.out.size))
      clear hb2
      clear hr2
      go_wp2_with fail
      refine (AW.out _ B2.out).mono ?_
      rintro e w3 ⟨rfl, hb3⟩
      have B3 := hid (B2.out.trans (hb3.mono B2.out.size))
      clear hb3
      go_wp2_with fail
      refine (AW.out _ B3.out).mono ?_
      rintro e w4 ⟨rfl, hb4⟩
      have B4 := hid (B3.out.trans (hb4.mono B3.out.size))
      clear hb4
      go_wp2_with fail
      go_ret
      exact ⟨rfl, B4.out⟩
    · rw [decide_eq_true hl] at OF
      rw [decide_eq_false hl2] at PA
      generalize fullN k = A at *
      go_enter Tryd.func9, Tryd.ntmps9
      go_wp2_with fail
      rw [W0.out]
      refine OF.out.mono ?_
      rintro e w1 ⟨v1, rfl, ho1, hb1⟩
      have B1 := hid (B0.out.trans (hb1.mono B0.out.size))
      clear hb1 ho1 OF
      go_wp2_with fail
      refine (PA.out _ B1.out).mono ?_
      rintro e w2 ⟨v2, rfl, hr2, hb2⟩
      have B2 := hid (B1.out.trans (hb2.mono B1.out.size))
      clear hb2
      clear hr2
      go_wp2_with fail
      refine (AW.out _ B2.out).mono ?_
      rintro e w3 ⟨rfl, hb3⟩
      have B3 := hid (B2.out.trans (hb3.mono B2.out.size))
      clear hb3
      go_wp2_with fail
      refine (AW.out _ B3.out).mono ?_
      rintro e w4 ⟨rfl, hb4⟩
      have B4 := hid (B3.out.trans (hb4.mono B3.out.size))
      clear hb4
      go_wp2_with fail
      go_ret
      exact ⟨rfl, B4.out⟩


set_option maxHeartbeats 1600000 in
set_option maxRecDepth 100000 in
theorem pMoreL (n : U8) (u : Value) (v : Value) (i : U8) (w : World) (hT : Tab w) (h : ArgC cD w u) (hs : SizeLe u 1048576) (k : ArgL enc8 w v) (ks : SizeLe v 1048576) :
    Calls Tryd.prog 8 #[.agg #[enc8 n, u], v, .int .u8 (i.toNat : Int)] w fun e w' => e = .returned (.bool true) ∧ Below w.heap.size w w' := by
  have AW := hid (fun (W : World) (hb : Below w.heap.size w W) => awake22_any W (hT.below hb))
  obtain ⟨ao, len, cap, rfl, h⟩ := h
  have hlen := hs _ _ _ rfl
  obtain ⟨ds, hdl, hr⟩ := h (by omega)
  obtain ⟨bo, len2, bcap, rfl, k⟩ := k
  have hlen2 := ks _ _ _ rfl
  obtain ⟨bs, hbl, hk⟩ := k (by omega)
  clear hs h ks k
  obtain ⟨w0, hw0⟩ : ∃ w0 : World, w.alloc (.cells #[enc8 n, .slice ao len cap] 38) = w0 := ⟨_, rfl⟩
  have hb0 : Below w.heap.size w w0 := by rw [← hw0]; exact below_alloc _ _
  have B0 := hid hb0
  have OF := hid (of_any n _ ds w0 (hr.below hb0) (by omega))
  have W0 := hid hw0
  have hfl := listF_length (fullN (n.toNat % 7)) ds
  have hpl := partsS_length (fullN (n.toNat % 7)) bs
  have hx : (i.toNat : Int) < 256 := by have := i.isLt; omega
  have hx0 : (0 : Int) ≤ (i.toNat : Int) := by omega
  have hk6 : n.toNat % 7 ≤ 6 := by omega
  have PA := hid (fun (W : World) (hb : Below w.heap.size w W) => parts_any ((n.toNat % 7 : Nat) : Int) bs _ W (hk.below hb) (by omega))
  have FU := hid (fun (W : World) => full_any ((n.toNat % 7 : Nat) : Int) W)
  rw [full_k (by omega)] at PA FU
  have hw2 := w2_list (fullN (n.toNat % 7)) ds
  have hps := fun p (hp : p ∈ partsS (fullN (n.toNat % 7)) bs) => partsS_sub hp
  clear hr hw0 hb0 hk
  generalize n.toNat % 7 = k at *
  generalize listF (fullN k) ds = fs at *
  generalize partsS (fullN k) bs = ps at *
  have hfb : fs.length ≤ 1048576 := by omega
  have hpb : ps.length ≤ 1048576 := by omega
  have hf6 : ds.length ≤ 6 → fs.length ≤ 6 := by omega
  have hp4 : bs.length ≤ 4 → ps.length ≤ 4 := by omega
  clear hfl hpl
  by_cases hok : ds.length ≤ 6 ∧ bs.length ≤ 4
  · obtain ⟨hl, hl2⟩ := hok
    rw [decide_eq_true hl] at OF
    rw [decide_eq_true hl2] at PA
    have hp4 := hp4 hl2
    have hA : fullN k ∈ ps ++ [fullN k] := by simp
    have hzA : sub (wd i &&& fullN k) (fullN k) := and_sub_right _ _
    have K1 := hid (fun (x y : Value) (W : World) (hx : RdF W x fs) (hy : RdE enc W y (ps.take (ps.length / 2))) => kept_any fs (ps.take (ps.length / 2)) (wd i &&& fullN k) x y W hx hy)
    have K2 := hid (fun (x y : Value) (W : World) (hx : RdF W x fs) (hy : RdE enc W y ps) => kept_any fs ps (wd i &&& fullN k) x y W hx hy)
    have K3 := hid (fun (x y : Value) (W : World) (hx : RdF W x fs) (hy : RdE enc W y (ps ++ [fullN k])) => kept_any fs (ps ++ [fullN k]) (wd i &&& fullN k) x y W hx hy)
    have AL := hid (fun (x y : Value) (W : World) (hx : RdF W x fs) (hy : RdE enc W y (ps ++ [fullN k])) => all_any fs (ps ++ [fullN k]) x y W hx hy (by omega))
    have CL := hid (fun (x : Value) (W : World) (hx : RdF W x fs) => refClose_any fs (wd i &&& fullN k) x W hx)
    have CO := hid (fun (x : Value) (W : World) (hx : RdE enc W x ps) => clone_any ps x W hx (by omega))
    have S1 := hid (fun (W : World) => sub_any (wd i &&& fullN k) (keptS fs (ps.take (ps.length / 2)) (wd i &&& fullN k)) W)
    have S2 := hid (fun (W : World) => sub_any (keptS fs (ps.take (ps.length / 2)) (wd i &&& fullN k)) (keptS fs ps (wd i &&& fullN k)) W)
    have S3 := hid (fun (W : World) => sub_any (keptS fs ps (wd i &&& fullN k)) (closeS fs (wd i &&& fullN k)) W)
    rw [kept_whole hw2 hA hzA] at K3
    rw [lost_whole hw2 hA] at AL
    rw [decide_eq_true (kept_sub _ _ _)] at S1
    rw [decide_eq_true (kept_parts (fun p hp => List.mem_of_mem_take hp) _)] at S2
    rw [decide_eq_true (kept_close _ _ _)] at S3
    have TK := hid (fun (W : World) (ao : Option Addr) (m cap : Nat) (h : RdE enc W (.slice ao m cap) ps) => RdE.take' h (Nat.div_le_self ps.length 2))
    have hq1 : (ps.length : Int).tdiv 2 = ((ps.length / 2 : Nat) : Int) := by rw [Int.tdiv_eq_ediv_of_nonneg (by omega)]; omega
    have hq2 : (ps.length : Int) / 2 = ((ps.length / 2 : Nat) : Int) := by omega
    have hq3 : ps.length / 2 ≤ ps.length := Nat.div_le_self _ _
    clear hw2 hps hl hT hA hzA
    generalize fullN k = A at *
    unfold enc8 at *
    generalize hm : ps.length / 2 = m at *
    generalize keptS fs (ps.take m) (wd i &&& A) = k1 at *
    generalize keptS fs ps (wd i &&& A) = k2 at *
    generalize closeS fs (wd i &&& A) = cz at *
    clear hm
    simp only [enc_eq] at FU K1 K2 K3 CL S1 S2 S3
    go_enter Tryd.func8, Tryd.ntmps8
    go_wp2_with fail
    rw [W0.out]
    refine OF.out.mono ?_
    rintro e w1 ⟨v1, rfl, ho1, hb1⟩
    have B1 := hid (B0.out.trans (hb1.mono B0.out.size))
    have R1 := hid (show RdF w1 v1 fs from RdC.of_owns cF_length ho1 (by omega))
    clear hb1 ho1 OF
    go_wp2_with fail
    refine (PA.out _ B1.out).mono ?_
    rintro e w2 ⟨v2, rfl, hr2, hb2⟩
    have B2 := hid (B1.out.trans (hb2.mono B1.out.size))
    replace R1 := hid (R1.out.below hb2)
    have R2 := hid hr2
    clear hr2
    clear hb2
    go_wp2_with fail
    refine (AW.out _ B2.out).mono ?_
    rintro e w3 ⟨rfl, hb3⟩
    have B3 := hid (B2.out.trans (hb3.mono B2.out.size))
    replace R1 := hid (R1.out.below hb3)
    replace R2 := hid (R2.out.below hb3)
    clear hb3
    go_wp2_with fail
    refine (FU.out _).mono ?_
    rintro e w' ⟨rfl, rfl⟩
    obtain ⟨po, pcap, rfl, hpc1, hpc2, hpc3⟩ := R2.out
    have m0 : (0 : Int) ≤ (m : Int) := by omega
    have m1 : (m : Int) ≤ (pcap : Int) := by omega
    have m2 : m ≤ pcap := by omega
    have TK1 := hid (fun (W : World) (h : RdE enc W (.slice po ps.length pcap) ps) => TK.out W po _ pcap h)
    have go : (∃ b off, po = some ⟨b, off, none⟩) ∨ ps = [] := by
      by_cases h0 : 0 < ps.length
      · obtain ⟨b, off, h, _⟩ := hpc3 h0
        exact .inl ⟨b, off, h⟩
      · exact .inr (List.eq_nil_of_length_eq_zero (by omega))
    clear hpc3
    obtain ⟨fo, fcap, rfl⟩ := RdC.form R1.out
    rcases go with ⟨b, off, rfl⟩ | hnil
    · go_wp2_with fail
      refine (K1.out _ _ _ R1.out (TK1.out _ R2.out)).mono ?_
      rintro e w4 ⟨rfl, hb4⟩
      have B4 := hid (B3.out.trans (hb4.mono B3.out.size))
      replace R1 := hid (R1.out.below hb4)
      replace R2 := hid (R2.out.below hb4)
      clear hb4
      go_wp2_with fail
      refine (K2.out _ _ _ R1.out R2.out).mono ?_
      rintro e w5 ⟨rfl, hb5⟩
      have B5 := hid (B4.out.trans (hb5.mono B4.out.size))
      replace R1 := hid (R1.out.below hb5)
      replace R2 := hid (R2.out.below hb5)
      clear hb5
      go_wp2_with fail
      have R15 := hid R1.out
      refine (CO.out _ _ R2.out).mono ?_
      rintro e w6 ⟨v6, rfl, ho6, hb6⟩
      have B6 := hid (B5.out.trans (hb6.mono B5.out.size))
      replace R1 := hid (R1.out.below hb6)
      have hs6 := hb6.size
      have HB6 := hid hb6
      clear hb6
      go_wp2_with fail
      refine (FU.out _).mono ?_
      rintro e w' ⟨rfl, rfl⟩
      go_wp2_with (at_builtin; refine wpList_push rfl _ _ 52 rfl w5.heap.size 25 (.int .u32 0) 4 undSets infoSet rfl (by decide) enc (fun _ => rfl) _ ps rfl (ho6.alloc _) ⟨w6.heap.size, 0, none⟩ A rfl cell_new (by omega) (by simp; omega) ?_)
      intro v' w7 hown' hgrow
      have hb7 := below_push (Below.refl w5.heap.size w6) hs6 ho6 hgrow
      have hb57 := HB6.out.trans hb7
      have B7 := hid (B5.out.trans (hb57.mono B5.out.size))
      have R3 := hid (show RdE enc w7 v' (ps ++ [A]) from RdE.of_owns (by simpa using hown') (by simp; omega))
      have R1' := hid (R15.out.below hb57)
      obtain ⟨xo, xcap, rfl⟩ := (show ∃ xo xcap, v' = .slice xo (ps.length + 1) xcap by obtain ⟨xo, xcap, h, -⟩ := R3.out.split; exact ⟨xo, xcap, by rw [h]; simp⟩)
      clear hb7 hb57 hown' hgrow ho6 R1
      go_wp2_with fail
      refine (S1.out _).mono ?_
      rintro e w' ⟨rfl, rfl⟩
      go_wp2_with fail
      refine (S2.out _).mono ?_
      rintro e w' ⟨rfl, rfl⟩
      go_wp2_with fail
      refine (CL.out _ _ R1'.out).mono ?_
      rintro e w8 ⟨rfl, hb8⟩
      have B8 := hid (B7.out.trans (hb8.mono B7.out.size))
      replace R1' := hid (R1'.out.below hb8)
      replace R3 := hid (R3.out.below hb8)
      clear hb8
      go_wp2_with fail
      refine (S3.out _).mono ?_
      rintro e w' ⟨rfl, rfl⟩
      go_wp2_with fail
      refine (AL.out _ _ _ R1'.out R3.out).mono ?_
      rintro e w9 ⟨rfl, hb9⟩
      have B9 := hid (B8.out.trans (hb9.mono B8.out.size))
      replace R1' := hid (R1'.out.below hb9)
      replace R3 := hid (R3.out.below hb9)
      clear hb9
      go_wp2_with fail
      refine (K3.out _ _ _ R1'.out R3.out).mono ?_
      rintro e w10 ⟨rfl, hb10⟩
      have B10 := hid (B9.out.trans (hb10.mono B9.out.size))
      replace R1' := hid (R1'.out.below hb10)
      replace R3 := hid (R3.out.below hb10)
      clear hb10
      go_wp2_with fail
      refine (CL.out _ _ R1'.out).mono ?_
      rintro e w11 ⟨rfl, hb11⟩
      have B11 := hid (B10.out.trans (hb11.mono B10.out.size))
      clear hb11
      go_wp2_with fail
      go_ret
      exact ⟨ret_bool (by simp), B11.out⟩
    · have hm0 : m = 0 := by rw [hnil] at hq3; simp at hq3; exact hq3
      have K10 := hid (fun (y : Value) (W : World) (hx : RdF W (.slice fo fs.length fcap) fs) (hy : RdE enc W y []) => K1.out _ y W hx (by rw [hnil]; simpa using hy))
      subst hm0
      have HNIL := hid hnil
      clear hnil
      cases po with
      | none =>
        go_wp2_with fail
        refine (K10.out _ _ R1.out (RdE.nil _ _)).mono ?_
        rintro e w4 ⟨rfl, hb4⟩
        have B4 := hid (B3.out.trans (hb4.mono B3.out.size))
        replace R1 := hid (R1.out.below hb4)
        replace R2 := hid (R2.out.below hb4)
        clear hb4
        go_wp2_with fail
        refine (K2.out _ _ _ R1.out R2.out).mono ?_
        rintro e w5 ⟨rfl, hb5⟩
        have B5 := hid (B4.out.trans (hb5.mono B4.out.size))
        replace R1 := hid (R1.out.below hb5)
        replace R2 := hid (R2.out.below hb5)
        clear hb5
        go_wp2_with fail
        have R15 := hid R1.out
        refine (CO.out _ _ R2.out).mono ?_
        rintro e w6 ⟨v6, rfl, ho6, hb6⟩
        have B6 := hid (B5.out.trans (hb6.mono B5.out.size))
        replace R1 := hid (R1.out.below hb6)
        have hs6 := hb6.size
        have HB6 := hid hb6
        clear hb6
        go_wp2_with fail
        refine (FU.out _).mono ?_
        rintro e w' ⟨rfl, rfl⟩
        go_wp2_with (at_builtin; refine wpList_push rfl _ _ 52 rfl w5.heap.size 25 (.int .u32 0) 4 undSets infoSet rfl (by decide) enc (fun _ => rfl) _ ps rfl (ho6.alloc _) ⟨w6.heap.size, 0, none⟩ A rfl cell_new (by omega) (by simp; omega) ?_)
        intro v' w7 hown' hgrow
        have hb7 := below_push (Below.refl w5.heap.size w6) hs6 ho6 hgrow
        have hb57 := HB6.out.trans hb7
        have B7 := hid (B5.out.trans (hb57.mono B5.out.size))
        have R3 := hid (show RdE enc w7 v' (ps ++ [A]) from RdE.of_owns (by simpa using hown') (by simp; omega))
        have R1' := hid (R15.out.below hb57)
        obtain ⟨xo, xcap, rfl⟩ := (show ∃ xo xcap, v' = .slice xo (ps.length + 1) xcap by obtain ⟨xo, xcap, h, -⟩ := R3.out.split; exact ⟨xo, xcap, by rw [h]; simp⟩)
        clear hb7 hb57 hown' hgrow ho6 R1
        go_wp2_with fail
        refine (S1.out _).mono ?_
        rintro e w' ⟨rfl, rfl⟩
        go_wp2_with fail
        refine (S2.out _).mono ?_
        rintro e w' ⟨rfl, rfl⟩
        go_wp2_with fail
        refine (CL.out _ _ R1'.out).mono ?_
        rintro e w8 ⟨rfl, hb8⟩
        have B8 := hid (B7.out.trans (hb8.mono B7.out.size))
        replace R1' := hid (R1'.out.below hb8)
        replace R3 := hid (R3.out.below hb8)
        clear hb8
        go_wp2_with fail
        refine (S3.out _).mono ?_
        rintro e w' ⟨rfl, rfl⟩
        go_wp2_with fail
        refine (AL.out _ _ _ R1'.out R3.out).mono ?_
        rintro e w9 ⟨rfl, hb9⟩
        have B9 := hid (B8.out.trans (hb9.mono B8.out.size))
        replace R1' := hid (R1'.out.below hb9)
        replace R3 := hid (R3.out.below hb9)
        clear hb9
        go_wp2_with fail
        refine (K3.out _ _ _ R1'.out R3.out).mono ?_
        rintro e w10 ⟨rfl, hb10⟩
        have B10 := hid (B9.out.trans (hb10.mono B9.out.size))
        replace R1' := hid (R1'.out.below hb10)
        replace R3 := hid (R3.out.below hb10)
        clear hb10
        go_wp2_with fail
        refine (CL.out _ _ R1'.out).mono ?_
        rintro e w11 ⟨rfl, hb11⟩
        have B11 := hid (B10.out.trans (hb11.mono B10.out.size))
        clear hb11
        go_wp2_with fail
        go_ret
        exact ⟨ret_bool (by simp), B11.out⟩
      | some ad =>
        go_wp2_with fail
        refine (K10.out _ _ R1.out (by have := TK1.out _ R2.out; rw [HNIL.out] at this; simpa using this)).mono ?_
        rintro e w4 ⟨rfl, hb4⟩
        have B4 := hid (B3.out.trans (hb4.mono B3.out.size))
        replace R1 := hid (R1.out.below hb4)
        replace R2 := hid (R2.out.below hb4)
        clear hb4
        go_wp2_with fail
        refine (K2.out _ _ _ R1.out R2.out).mono ?_
        rintro e w5 ⟨rfl, hb5⟩
        have B5 := hid (B4.out.trans (hb5.mono B4.out.size))
        replace R1 := hid (R1.out.below hb5)
        replace R2 := hid (R2.out.below hb5)
        clear hb5
        go_wp2_with fail
        have R15 := hid R1.out
        refine (CO.out _ _ R2.out).mono ?_
        rintro e w6 ⟨v6, rfl, ho6, hb6⟩
        have B6 := hid (B5.out.trans (hb6.mono B5.out.size))
        replace R1 := hid (R1.out.below hb6)
        have hs6 := hb6.size
        have HB6 := hid hb6
        clear hb6
        go_wp2_with fail
        refine (FU.out _).mono ?_
        rintro e w' ⟨rfl, rfl⟩
        go_wp2_with (at_builtin; refine wpList_push rfl _ _ 52 rfl w5.heap.size 25 (.int .u32 0) 4 undSets infoSet rfl (by decide) enc (fun _ => rfl) _ ps rfl (ho6.alloc _) ⟨w6.heap.size, 0, none⟩ A rfl cell_new (by omega) (by simp; omega) ?_)
        intro v' w7 hown' hgrow
        have hb7 := below_push (Below.refl w5.heap.size w6) hs6 ho6 hgrow
        have hb57 := HB6.out.trans hb7
        have B7 := hid (B5.out.trans (hb57.mono B5.out.size))
        have R3 := hid (show RdE enc w7 v' (ps ++ [A]) from RdE.of_owns (by simpa using hown') (by simp; omega))
        have R1' := hid (R15.out.below hb57)
        obtain ⟨xo, xcap, rfl⟩ := (show ∃ xo xcap, v' = .slice xo (ps.length + 1) xcap by obtain ⟨xo, xcap, h, -⟩ := R3.out.split; exact ⟨xo, xcap, by rw [h]; simp⟩)
        clear hb7 hb57 hown' hgrow ho6 R1
        go_wp2_with fail
        refine (S1.out _).mono ?_
        rintro e w' ⟨rfl, rfl⟩
        go_wp2_with fail
        refine (S2.out _).mono ?_
        rintro e w' ⟨rfl, rfl⟩
        go_wp2_with fail
        refine (CL.out _ _ R1'.out).mono ?_
        rintro e w8 ⟨rfl, hb8⟩
        have B8 := hid (B7.out.trans (hb8.mono B7.out.size))
        replace R1' := hid (R1'.out.below hb8)
        replace R3 := hid (R3.out.below hb8)
        clear hb8
        go_wp2_with fail
        refine (S3.out _).mono ?_
        rintro e w' ⟨rfl, rfl⟩
        go_wp2_with fail
        refine (AL.out _ _ _ R1'.out R3.out).mono ?_
        rintro e w9 ⟨rfl, hb9⟩
        have B9 := hid (B8.out.trans (hb9.mono B8.out.size))
        replace R1' := hid (R1'.out.below hb9)
        replace R3 := hid (R3.out.below hb9)
        clear hb9
        go_wp2_with fail
        refine (K3.out _ _ _ R1'.out R3.out).mono ?_
        rintro e w10 ⟨rfl, hb10⟩
        have B10 := hid (B9.out.trans (hb10.mono B9.out.size))
        replace R1' := hid (R1'.out.below hb10)
        replace R3 := hid (R3.out.below hb10)
        clear hb10
        go_wp2_with fail
        refine (CL.out _ _ R1'.out).mono ?_
        rintro e w11 ⟨rfl, hb11⟩
        have B11 := hid (B10.out.trans (hb11.mono B10.out.size))
        clear hb11
        go_wp2_with fail
        go_ret
        exact ⟨ret_bool (by simp), B11.out⟩
  · unfold enc8 at *
    rcases (show ¬ ds.length ≤ 6 ∨ (ds.length ≤ 6 ∧ ¬ bs.length ≤ 4) by omega) with hl | ⟨hl, hl2⟩
    · rw [decide_eq_false hl] at OF
      generalize decide (bs.length ≤ 4) = q at *
      generalize fullN k = A at *
      go_enter Tryd.func8, Tryd.ntmps8
      go_wp2_with fail
      rw [W0.out]
      refine OF.out.mono ?_
      rintro e w1 ⟨v1, rfl, ho1, hb1⟩
      have B1 := hid (B0.out.trans (hb1.mono B0.out.size))
      clear hb1 ho1 OF
      go_wp2_with fail
      refine (PA.out _ B1.out).mono ?_
      rintro e w2 ⟨v2, rfl, hr2, hb2⟩
      have B2 := hid (B1.out.trans (hb2.mono B1.out.size))
      clear hb2
      clear hr2
      go_wp2_with fail
      refine (AW.out _ B2.out).mono ?_
      rintro e w3 ⟨rfl, hb3⟩
      have B3 := hid (B2.out.trans (hb3.mono B2.out.size))
      clear hb3
      go_wp2_with fail
      refine (AW.out _ B3.out).mono ?_
      rintro e w4 ⟨rfl, hb4⟩
      have B4 := hid (B3.out.trans (hb4.mono B3.out.size))
      clear hb4
      go_wp2_with fail
      go_ret
      exact ⟨rfl, B4.out⟩
    · rw [decide_eq_true hl] at OF
      rw [decide_eq_false hl2] at PA
      generalize fullN k = A at *
      go_enter Tryd.func8, Tryd.ntmps8
      go_wp2_with fail
      rw [W0.out]
      refine OF.out.mono ?_
      rintro e w1 ⟨v1, rfl, ho1, hb1⟩
      have B1 := hid (B0.out.trans (hb1.mono B0.out.size))
      clear hb1 ho1 OF
      go_wp2_with fail
      refine (PA.out _ B1.out).mono ?_
      rintro e w2 ⟨v2, rfl, hr2, hb2⟩
      have B2 := hid (B1.out.trans (hb2.mono B1.out.size))
      clear hb2
      clear hr2
      go_wp2_with fail
      refine (AW.out _ B2.out).mono ?_
      rintro e w3 ⟨rfl, hb3⟩
      have B3 := hid (B2.out.trans (hb3.mono B2.out.size))
      clear hb3
      go_wp2_with fail
      refine (AW.out _ B3.out).mono ?_
      rintro e w4 ⟨rfl, hb4⟩
      have B4 := hid (B3.out.trans (hb4.mono B3.out.size))
      clear hb4
      go_wp2_with fail
      go_ret
      exact ⟨rfl, B4.out⟩


end Go.Proofs.YtciamnkalmihcaaDoor
