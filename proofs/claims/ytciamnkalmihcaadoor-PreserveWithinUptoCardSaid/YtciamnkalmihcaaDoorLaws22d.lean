/- The law PreserveWithin, over the contracts of what it calls. -/
import Derived.Test.YtciamnkalmihcaaDoorLaws22b
namespace Go.Proofs.YtciamnkalmihcaaDoor
open Go.RowKit

attribute [local irreducible] Go.wpQuiet

theorem w2_projR {fs : List F} {s : S} (h : projE fs s = 0) : W2 s (projR fs s) := by
  rw [projR_of h]; exact w2_proj fun x hx => subsS_le (projE_pop h) hx
theorem or_subP {a b c : S} (h : sub a c) (k : sub b c) : decide (sub (a ||| b) c) = true := decide_eq_true (or_sub h k)

set_option maxHeartbeats 1600000 in
set_option maxRecDepth 100000 in
theorem pWithinL (n : U8) (u : Value) (i : U8) (d : D8) (w : World) (hT : Tab w) (h : ArgC cD w u) (hs : SizeLe u 1048576) :
    Calls Tryd.prog 4 #[.agg #[enc8 n, u], .int .u8 (i.toNat : Int), .agg #[enc8 d.1, enc8 d.2]] w fun e w' => e = .returned (.bool true) ∧ Below w.heap.size w w' := by
  have AW := hid (fun (W : World) (hb : Below w.heap.size w W) => awake22_any W (hT.below hb))
  obtain ⟨ao, len, cap, rfl, h⟩ := h
  have hlen := hs _ _ _ rfl
  obtain ⟨ds, hdl, hr⟩ := h (by omega)
  clear hs h
  have b1 := below_alloc w (.cells #[enc8 n, .slice ao len cap] 38)
  have b2 := below_alloc (w.alloc (.cells #[enc8 n, .slice ao len cap] 38)) (.cells #[enc8 d.1, enc8 d.2] 40)
  have hb0 := b1.trans (b2.mono b1.size)
  have z1 : (w.alloc (.cells #[enc8 n, .slice ao len cap] 38)).heap.size = w.heap.size + 1 := by simp
  have c0 : ((w.alloc (.cells #[enc8 n, .slice ao len cap] 38)).alloc (.cells #[enc8 d.1, enc8 d.2] 40)).cell? ⟨(w.alloc (.cells #[enc8 n, .slice ao len cap] 38)).heap.size, 0, none⟩ = some (.int .u8 (d.1.toNat : Int)) := cell_two.1
  have c1 : ((w.alloc (.cells #[enc8 n, .slice ao len cap] 38)).alloc (.cells #[enc8 d.1, enc8 d.2] 40)).cell? ⟨(w.alloc (.cells #[enc8 n, .slice ao len cap] 38)).heap.size, 1, none⟩ = some (.int .u8 (d.2.toNat : Int)) := cell_two.2
  rw [z1] at c0 c1
  obtain ⟨w0, hw0⟩ : ∃ w0 : World, (w.alloc (.cells #[enc8 n, .slice ao len cap] 38)).alloc (.cells #[enc8 d.1, enc8 d.2] 40) = w0 := ⟨_, rfl⟩
  rw [hw0] at hb0 c0 c1
  have H2 := hid (held2 c0 c1)
  have B0 := hid hb0
  have OF := hid (of_any n _ ds w0 (hr.below hb0) (by omega))
  have W0 := hid hw0
  have hfl := listF_length (fullN (n.toNat % 7)) ds
  have hx : (i.toNat : Int) < 256 := by have := i.isLt; omega
  have hx0 : (0 : Int) ≤ (i.toNat : Int) := by omega
  have hd1 : (d.1.toNat : Int) < 256 := by have := d.1.isLt; omega
  have hd2 : (d.2.toNat : Int) < 256 := by have := d.2.isLt; omega
  have hd3 : (0 : Int) ≤ (d.1.toNat : Int) := by omega
  have hd4 : (0 : Int) ≤ (d.2.toNat : Int) := by omega
  have hk6 : n.toNat % 7 ≤ 6 := by omega
  have FU := hid (fun (W : World) => full_any ((n.toNat % 7 : Nat) : Int) W)
  rw [full_k (by omega)] at FU
  have hw2 := w2_list (fullN (n.toNat % 7)) ds
  clear hr hw0 hb0 c0 c1 b1 b2 z1
  generalize n.toNat % 7 = k at *
  generalize listF (fullN k) ds = fs at *
  have hfb : fs.length ≤ 1048576 := by omega
  have hf6 : ds.length ≤ 6 → fs.length ≤ 6 := by omega
  clear hfl
  by_cases hl : ds.length ≤ 6
  · rw [decide_eq_true hl] at OF
    have hzA : sub (wd i &&& fullN k) (fullN k) := and_sub_right _ _
    have hpe := projE_zero hk6 (by have := hf6 hl; omega) hw2 hzA
    have PR := hid (fun (x : Value) (W : World) (hb : Below w.heap.size w W) (hx : RdF W x fs) => projectRR fs (wd i &&& fullN k) x W (hT.below hb) hx)
    rw [hpe] at PR
    have WP := hid (w2_projR hpe)
    have hmm : ∀ x, x ∈ subsS (wd i &&& fullN k) ↔ sub x (wd i &&& fullN k) := mem_subsS (projE_pop hpe)
    have MI := hid (fun (x y : Value) (W : World) (hx : RdF W x fs) (hy : RdF W y (projR fs (wd i &&& fullN k))) => refMissing_any fs (projR fs (wd i &&& fullN k)) x y W hx hy)
    have hms : missB fs (projR fs (wd i &&& fullN k)) = false := by rw [projR_of hpe]; exact proj_miss hmm
    rw [hms] at MI
    have him : impS (projR fs (wd i &&& fullN k)) (wd d.1 &&& (wd i &&& fullN k), wd d.2 &&& (wd i &&& fullN k)) = impS fs (wd d.1 &&& (wd i &&& fullN k), wd d.2 &&& (wd i &&& fullN k)) := by
      rw [projR_of hpe]; exact proj_imp hmm (and_sub_right _ _) (and_sub_right _ _)
    have I1 := hid (fun (x : Value) (W : World) (hx : RdF W x (projR fs (wd i &&& fullN k))) => refImplies_any (projR fs (wd i &&& fullN k)) (wd d.1 &&& (wd i &&& fullN k), wd d.2 &&& (wd i &&& fullN k)) x W hx)
    have I2 := hid (fun (x : Value) (W : World) (hx : RdF W x fs) => refImplies_any fs (wd d.1 &&& (wd i &&& fullN k), wd d.2 &&& (wd i &&& fullN k)) x W hx)
    rw [him] at I1
    have SB := hid (fun (f : F) (h : f ∈ projR fs (wd i &&& fullN k)) (W : World) => show Calls Tryd.prog 19 #[enc (f.1 ||| f.2), enc (wd i &&& fullN k)] W fun e w' => e = .returned (.bool true) ∧ W = w' by
      have := sub_any (f.1 ||| f.2) (wd i &&& fullN k) W
      rwa [or_subP (WP.out f h).1 (WP.out f h).2] at this)
    clear hw2 hl hT hzA hpe WP hmm hms him
    generalize impS fs (wd d.1 &&& (wd i &&& fullN k), wd d.2 &&& (wd i &&& fullN k)) = r at *
    generalize projR fs (wd i &&& fullN k) = pr at *
    generalize missI fs pr = mi at *
    generalize fullN k = A at *
    unfold enc8 at *
    simp only [enc_eq] at FU PR SB I1 I2
    go_enter Tryd.func4, Tryd.ntmps4
    go_wp2_with fail
    rw [W0.out]
    refine OF.out.mono ?_
    rintro e w1 ⟨v1, rfl, ho1, hb1⟩
    have B1 := hid (B0.out.trans (hb1.mono B0.out.size))
    have H21 := hid hb1
    have R1 := hid (show RdF w1 v1 fs from RdC.of_owns cF_length ho1 (by omega))
    clear hb1 ho1 OF
    go_wp2_with fail
    refine (AW.out _ B1.out).mono ?_
    rintro e w2 ⟨rfl, hb2⟩
    have B2 := hid (B1.out.trans (hb2.mono B1.out.size))
    have H22 := hid (H21.out.trans (hb2.mono H21.out.size))
    replace R1 := hid (R1.out.below hb2)
    clear hb2 H21
    go_wp2_with fail
    refine (FU.out _).mono ?_
    rintro e w' ⟨rfl, rfl⟩
    go_wp2_with fail
    refine (PR.out _ _ B2.out R1.out).mono ?_
    rintro e w3 ⟨v3, rfl, hr3, hb3⟩
    have B3 := hid (B2.out.trans (hb3.mono B2.out.size))
    obtain ⟨c0, c1⟩ := (H2.out _ (H22.out.trans (hb3.mono H22.out.size))).2
    have R1 := hid (show RdF w3 v1 fs from R1.out.below hb3)
    have R3 := hid (show RdF w3 v3 pr from hr3)
    clear hb3 hr3 H22 H2
    obtain ⟨g1, hg1⟩ : ∃ g1, wd d.1 &&& (wd i &&& A) = g1 := ⟨_, rfl⟩
    obtain ⟨g2, hg2⟩ : ∃ g2, wd d.2 &&& (wd i &&& A) = g2 := ⟨_, rfl⟩
    have hb4 := below_alloc w3 (.cells #[.int .u32 (iv (wd d.1 &&& (wd i &&& A))), .int .u32 (iv (wd d.2 &&& (wd i &&& A)))] 34)
    have k0 : (w3.alloc (.cells #[.int .u32 (iv (wd d.1 &&& (wd i &&& A))), .int .u32 (iv (wd d.2 &&& (wd i &&& A)))] 34)).cell? ⟨w3.heap.size, 0, none⟩ = some (.int .u32 (iv (wd d.1 &&& (wd i &&& A)))) := cell_two.1
    have k1 : (w3.alloc (.cells #[.int .u32 (iv (wd d.1 &&& (wd i &&& A))), .int .u32 (iv (wd d.2 &&& (wd i &&& A)))] 34)).cell? ⟨w3.heap.size, 1, none⟩ = some (.int .u32 (iv (wd d.2 &&& (wd i &&& A)))) := cell_two.2
    obtain ⟨w4, hw4⟩ : ∃ w4 : World, w3.alloc (.cells #[.int .u32 (iv (wd d.1 &&& (wd i &&& A))), .int .u32 (iv (wd d.2 &&& (wd i &&& A)))] 34) = w4 := ⟨_, rfl⟩
    rw [hw4] at hb4 k0 k1
    have K2 := hid (held2 k0 k1)
    have B4 := hid (B3.out.trans (hb4.mono B3.out.size))
    have R1' := hid (show RdF w4 v1 fs from R1.out.below hb4)
    have R3' := hid (show RdF w4 v3 pr from R3.out.below hb4)
    have W4 := hid hw4
    obtain ⟨fo, fcap, rfl⟩ := RdC.form R1.out
    obtain ⟨po, pcap, rfl⟩ := RdC.form R3.out
    clear R1 R3 hb4 hw4 k0 k1 hg1 hg2
    go_wp2_with fail
    rw [W4.out]
    refine (MI.out _ _ _ R1'.out R3'.out).mono ?_
    rintro e w5 ⟨rfl, hb5⟩
    have B5 := hid (B4.out.trans (hb5.mono B4.out.size))
    have K25 := hid hb5
    have R1 := hid (show RdF w5 (.slice fo fs.length fcap) fs from R1'.out.below hb5)
    have R3 := hid (show RdF w5 (.slice po pr.length pcap) pr from R3'.out.below hb5)
    obtain ⟨po', pcap', he, hpl, hpc⟩ := RdF.split R3.out
    cases he
    have PC := hid hpc
    clear hb5 c0 c1 hpc R1' R3'
    go_wp2_with fail
    go_loopw [61] (fun i wr => ∃ j : Nat, j ≤ pr.length ∧ i = .int .i64 j ∧ Below w5.heap.size w5 wr) (fun i _ => pr.length - (intOf i).toNat)
    case atStart => exact ⟨0, Nat.zero_le _, rfl, Below.refl _ _⟩
    case round =>
      obtain ⟨j, hj, rfl, hnx⟩ := hrel
      obtain ⟨wo, rfl⟩ : ∃ wo : World, wo = wr := ⟨_, rfl⟩
      by_cases hlt : j < pr.length
      · obtain ⟨f, hf⟩ := get_some hlt
        obtain ⟨b, off, rfl, hfc⟩ := PC.out j f hf
        obtain ⟨e0, e1⟩ := hfc wo hnx
        have S1 := hid (SB.out f (List.mem_of_getElem? hf))
        have hsz := hnx.size
        have HN := hid (hnx.alloc hsz (.cells #[.int .u32 (iv f.1), .int .u32 (iv f.2)] 34))
        clear hfc hf hnx
        go_wp2_with fail
        refine (S1.out _).mono ?_
        rintro e w' ⟨rfl, rfl⟩
        go_wp2_with fail
        go_roundw
        case rel => exact ⟨j + 1, by omega, by go_num, HN.out⟩
        case measure => simp [intOf]; omega
      · obtain ⟨-, k0, k1⟩ := K2.out _ (K25.out.trans (hnx.mono K25.out.size))
        have K3 := hid (held2 k0 k1)
        have J1 := hid (fun (W : World) (h : Below wo.heap.size wo W) => I1.out _ W ((R3.out.below hnx).below h))
        have J2 := hid (fun (W : World) (h : Below wo.heap.size wo W) => I2.out _ W ((R1.out.below hnx).below h))
        have HN := hid (B5.out.trans (hnx.mono B5.out.size))
        clear hnx
        go_wp2_with fail
        go_region_held3 (fun W => Below wo.heap.size wo W ∧ W.cell? ⟨w3.heap.size, 0, none⟩ = some (.int .u32 (iv (wd d.1 &&& (wd i &&& A)))) ∧ W.cell? ⟨w3.heap.size, 1, none⟩ = some (.int .u32 (iv (wd d.2 &&& (wd i &&& A)))))
          (first | exact K3.out _ (Below.refl _ _).drew | exact K3.out _ (by assumption))
          (first
            | (go_at_call 20; have hS := And.left ‹Below wo.heap.size wo _ ∧ _ ∧ _›; with_reducible refine (J1.out _ hS).mono ?_; rintro e w7 ⟨rfl, hb7⟩; have hL := later hS hb7; clear hb7 hS)
            | (go_at_call 20; have hS := And.left ‹Below wo.heap.size wo _ ∧ _ ∧ _›; with_reducible refine (J2.out _ hS).mono ?_; rintro e w8 ⟨rfl, hb8⟩; have hL8 := later hS hb8; clear hb8 hS))
        all_goals
          have BQ := hid (HN.out.trans (hL8.mono HN.out.size))
          clear hL hL8
          go_wp2_with fail
          go_ret
          exact ⟨ret_bool (by simp), BQ.out⟩
  · rw [decide_eq_false hl] at OF
    generalize fullN k = A at *
    unfold enc8 at *
    go_enter Tryd.func4, Tryd.ntmps4
    go_wp2_with fail
    rw [W0.out]
    refine OF.out.mono ?_
    rintro e w1 ⟨v1, rfl, ho1, hb1⟩
    have B1 := hid (B0.out.trans (hb1.mono B0.out.size))
    clear hb1 ho1 OF
    go_wp2_with fail
    refine (AW.out _ B1.out).mono ?_
    rintro e w2 ⟨rfl, hb2⟩
    have B2 := hid (B1.out.trans (hb2.mono B1.out.size))
    clear hb2
    go_wp2_with fail
    refine (AW.out _ B2.out).mono ?_
    rintro e w3 ⟨rfl, hb3⟩
    have B3 := hid (B2.out.trans (hb3.mono B2.out.size))
    clear hb3
    go_wp2_with fail
    go_ret
    exact ⟨rfl, B3.out⟩

end Go.Proofs.YtciamnkalmihcaaDoor
