/- The law Lattice of chapter 9, over the contracts of what it calls. -/
import Derived.Test.YtmlbmdcmedglaaaLaws09b
import Derived.Test.YtmlbmdcmedglaaaLatL
namespace Go.Proofs.Ytmlbmdcmedglaaa
open Go.RowKit

theorem list_within {a : S} {ds : List D8} {f : F} (h : f ∈ listF a ds) : sub f.1 a ∧ sub f.2 a := by
  unfold listF at h
  obtain ⟨d, _, rfl⟩ := List.mem_map.1 h
  exact ⟨and_sub_right _ _, and_sub_right _ _⟩
theorem list_valid {n : Nat} (h : n ≤ 12) {ds : List D8} (hl : ds.length ≤ 64) : cloE n (listF (fullN n) ds) = 0 := by
  rw [cloE_mid (by omega) (by omega)]
  unfold validF
  rw [if_neg (by omega), if_neg (by rw [listF_length]; omega), if_neg]
  rw [Bool.not_eq_true, List.any_eq_false]
  intro f hf
  obtain ⟨h1, h2⟩ := list_within hf
  rw [show (n : Int).toNat = n by omega, outF_sub, decide_eq_true h1, decide_eq_true h2]; simp
theorem list_full_closed (a : S) (ds : List D8) : closedF (listF a ds) a := fun _ hf _ => (list_within hf).2

theorem tmod_nat (x l : Nat) : (x : Int).tmod (l : Int) = ((x % l : Nat) : Int) := by rw [Int.tmod_eq_emod_of_nonneg (by omega)]; rfl

set_option maxHeartbeats 2000000 in
set_option maxRecDepth 100000 in
theorem latticeL (n : U8) (u : Value) (s x y : U8) (w : World) (h : ArgC cD w u) (hs : SizeLe u 1048576) :
    Calls Try.prog 8 #[.agg #[enc8 n, u], .int .u8 (s.toNat : Int), .agg #[enc8 x, enc8 y]] w fun e w' => e = .returned (.bool true) ∧ Below w.heap.size w w' := by
  have AW := hid awake_any
  obtain ⟨ao, len, cap, rfl, h⟩ := h
  have hlen := hs _ _ _ rfl
  obtain ⟨ds, hdl, hr⟩ := h (by omega)
  clear hs h
  obtain ⟨w0, hw0⟩ : ∃ w0 : World, (w.alloc (.cells #[enc8 n, .slice ao len cap] 47)).alloc (.cells #[enc8 x, enc8 y] 48) = w0 := ⟨_, rfl⟩
  have hb0 : Below w.heap.size w w0 := by rw [← hw0]; exact (below_alloc _ _).alloc (by simp) _
  have cx : w0.cell? ⟨w.heap.size + 1, 0, none⟩ = some (.int .u8 (x.toNat : Int)) := by rw [← hw0]; simp [enc8]
  have cy : w0.cell? ⟨w.heap.size + 1, 1, none⟩ = some (.int .u8 (y.toNat : Int)) := by rw [← hw0]; simp [enc8]
  have B0 := hid hb0
  have OF := hid (of_any n _ ds w0 (hr.below hb0) (by omega))
  have CXY := hid (held2 cx cy)
  have W0 := hid hw0
  clear hr hw0 hb0 cx cy
  have hn : n.toNat % 7 ≤ 12 := by omega
  have hx : (x.toNat : Int) < 256 := by have := x.isLt; omega
  have hy : (y.toNat : Int) < 256 := by have := y.isLt; omega
  by_cases hl : ds.length ≤ 6
  · have CZ := hid (list_valid hn (ds := ds) (by omega))
    rw [decide_eq_true hl] at OF
    have FC := hid (list_full_closed (fullN (n.toNat % 7)) ds)
    have hfl : (listF (fullN (n.toNat % 7)) ds).length ≤ 6 := by rw [listF_length]; exact hl
    clear hl
    generalize hk : n.toNat % 7 = k at *
    have hk6 : k ≤ 6 := by omega
    generalize listF (fullN k) ds = xs at *
    have FU := hid (full_any (k : Int))
    rw [show min (k : Int).toNat 32 = k by omega] at FU
    have CL := hid (fun (u : Value) (W : World) (h : RdF W u xs) => closedR k xs u W h)
    rw [CZ.out] at CL
    have AS := hid (fun (ys : List S) (h : ClosedP (k : Int) xs ys) => h.2 CZ.out)
    rw [show (k : Int).toNat = k by omega] at AS
    generalize fullN k = A at *
    clear hk hn CZ
    unfold enc8 at *
    simp only [enc_eq] at FU
    go_enter Try.func8, Try.ntmps8
    go_wp2_with fail
    rw [W0.out]
    refine OF.out.mono ?_
    rintro e w1 ⟨v1, rfl, ho1, hb1⟩
    have B1 := hid (B0.out.trans (hb1.mono B0.out.size))
    have R1 := hid (RdC.of_owns cF_length ho1 (by omega))
    have H1 := hid (CXY.out w1 hb1)
    clear hb1 ho1 OF CXY
    go_wp2_with fail
    refine (AW.out _).mono ?_
    rintro e w2 ⟨rfl, hb2⟩
    have B2 := hid (B1.out.trans (hb2.mono B1.out.size))
    have R2 := hid (R1.out.below hb2)
    have H2 := hid (held2 H1.out.2.1 H1.out.2.2 w2 hb2)
    clear hb2
    go_wp2_with fail
    refine (CL.out _ _ R2.out).mono ?_
    rintro e w3 ⟨v3, ys, rfl, hr3, hp3, hb3⟩
    have B3 := hid (B2.out.trans (hb3.mono B2.out.size))
    have RW3 := hid (R2.out.below hb3)
    have H3 := hid (held2 H2.out.2.1 H2.out.2.2 w3 hb3)
    have O3 := hid (AS.out ys hp3)
    obtain ⟨lo, lcap, rfl, hyl, hlc⟩ := hr3.split
    have R3 := hid hr3
    have LC := hid hlc
    clear hb3 hp3 hr3 hlc H2 AS
    have hpos : 0 < ys.length := by
      have := (O3.out.2 A).2 ⟨sub_refl _, FC.out⟩
      exact List.length_pos_of_mem this
    have hne : ((ys.length : Int) == 0) = false := by simp; intro h; rw [h] at hpos; simp at hpos
    have hnil : ¬ ys = [] := by rintro rfl; simp at hpos
    have hx1 := tmod_nat x.toNat ys.length
    have hy1 := tmod_nat y.toNat ys.length
    have hi : x.toNat % ys.length < ys.length := Nat.mod_lt _ hpos
    have hj : y.toNat % ys.length < ys.length := Nat.mod_lt _ hpos
    generalize x.toNat % ys.length = i at *
    generalize y.toNat % ys.length = j at *
    obtain ⟨a, ha⟩ := get_some hi
    obtain ⟨b, hb⟩ := get_some hj
    have hi0 : (0 : Int) ≤ (i : Int) := by omega
    have hj0 : (0 : Int) ≤ (j : Int) := by omega
    have hi1 : (i : Int) < (ys.length : Int) := by omega
    have hj1 : (j : Int) < (ys.length : Int) := by omega
    obtain ⟨lb, loff, rfl, hca⟩ := LC.out _ a ha
    obtain ⟨lb', loff', he, hcb⟩ := LC.out _ b hb
    cases he
    have ca := hca w3 (Below.refl _ _)
    have cb := hcb w3 (Below.refl _ _)
    simp only [enc_eq] at ca cb
    clear hca hcb
    obtain ⟨-, cx, cy⟩ := H3.out
    have MA := hid (List.mem_of_getElem? ha)
    have MB := hid (List.mem_of_getElem? hb)
    clear ha hb
    go_wp2_with fail
    go_quiet (fail)
    rename Nat => q
    have B4 := hid (below_drewN' B3.out q)
    have RW4 := hid (RW3.out.below (below_drewN w3.heap.size w3 q))
    have R4 := hid (R3.out.below (below_drewN w3.heap.size w3 q))
    obtain ⟨w4, hw4⟩ : ∃ w4 : World, w3.drewN q = w4 := ⟨_, rfl⟩
    rw [hw4] at B4 RW4 R4
    have LC4 := hid (fun (k : Nat) (x : S) (h : ys[k]? = some x) => by
      obtain ⟨b, off, he, hc⟩ := LC.out k x h
      have := hc (w3.drewN q) (below_drewN _ _ _)
      rw [hw4] at this
      exact (⟨b, off, he, this⟩ : ∃ b off, some (⟨lb, loff, none⟩ : Addr) = some ⟨b, off, none⟩ ∧ w4.cell? ⟨b, off + k, none⟩ = some (enc x)))
    rw [hw4]
    have hs : (s.toNat : Int) < 256 := by have := s.isLt; omega
    have MM := hid (meet_close O3.out.2 FC.out (and_sub_right (wd s) A))
    have CC := hid (fun (W : World) (h : RdE enc W (.slice (some ⟨lb, loff, none⟩) ys.length lcap) ys) => containsS_any ys (a &&& b) _ W h)
    rw [decide_eq_true ((O3.out.2 _).2 ⟨sub_trans (and_sub_left _ _) ((O3.out.2 a).1 MA.out).1, and_closed ((O3.out.2 a).1 MA.out).2 ((O3.out.2 b).1 MB.out).2⟩)] at CC
    have CO := hid (fun (W : World) (h : RdF W v1 xs) => close_any xs (wd s &&& A) _ W h)
    have MN := hid (fun (k : Nat) (c : S) (h : ys[k]? = some c) => meetF_next (t := wd s &&& A) h A)
    simp only [enc_eq] at CC CO
    clear hw4 cx cy ca cb hi0 hj0 hi1 hj1 hx1 hy1 hi hj LC MA MB O3 FC
    go_wp2_with fail
    refine (FU.out _).mono ?_
    rintro e w' ⟨rfl, rfl⟩
    go_wp2_with fail
    go_loop [16, 72] (fun c i => ∃ k : Nat, k ≤ ys.length ∧ i = .int .i64 k ∧ c = .int .u32 (iv (meetF (wd s &&& A) (ys.take k) A))) (fun _ i => ys.length - (intOf i).toNat)
    case atStart => exact ⟨0, Nat.zero_le _, rfl, rfl⟩
    case round =>
      obtain ⟨k, hk, rfl, rfl⟩ := hrel
      by_cases hlt : k < ys.length
      · obtain ⟨c, hc⟩ := get_some hlt
        obtain ⟨_, _, he, e1⟩ := LC4.out k c hc
        cases he
        have N := hid (MN.out k c hc)
        have SB := hid (sub_any (wd s &&& A) c w4)
        simp only [enc_eq] at SB e1
        clear hc
        generalize meetF (wd s &&& A) (ys.take k) A = t at *
        cases hq : decide (sub (wd s &&& A) c) with
        | true =>
          rw [hq] at SB
          have N2 := hid (N.out.trans (if_pos (of_decide_eq_true hq)))
          clear hq N
          go_wp2_with fail
          refine (SB.out).mono ?_
          rintro e w' ⟨rfl, rfl⟩
          go_wp2_with fail
          go_round
          case rel => exact ⟨k + 1, by omega, by go_num, by rw [N2.out]⟩
          case measure => simp [intOf]; omega
        | false =>
          rw [hq] at SB
          have N2 := hid (N.out.trans (if_neg (of_decide_eq_false hq)))
          clear hq N
          go_wp2_with fail
          refine (SB.out).mono ?_
          rintro e w' ⟨rfl, rfl⟩
          go_wp2_with fail
          go_round
          case rel => exact ⟨k + 1, by omega, by go_num, by rw [N2.out]⟩
          case measure => simp [intOf]; omega
      · rw [take_all hlt, MM.out]
        clear MM MN LC4
        generalize closeS xs (wd s &&& A) = c at *
        go_wp2_with fail
        refine (CC.out _ R4.out).mono ?_
        rintro e w' ⟨rfl, rfl⟩
        go_wp2_with fail
        refine (CO.out _ RW4.out).mono ?_
        rintro e w6 ⟨rfl, hb6⟩
        have B6 := hid (B4.out.trans (hb6.mono B4.out.size))
        clear hb6
        go_wp2_with fail
        go_ret
        exact ⟨ret_bool (by simp), B6.out⟩
  · rw [decide_eq_false hl] at OF
    clear hl
    unfold enc8 at *
    generalize listF (fullN (n.toNat % 7)) ds = xs at *
    generalize ((n.toNat % 7 : Nat) : Int) = m at *
    go_enter Try.func8, Try.ntmps8
    go_wp2_with fail
    rw [W0.out]
    refine OF.out.mono ?_
    rintro e w1 ⟨v1, rfl, ho1, hb1⟩
    have B1 := hid (B0.out.trans (hb1.mono B0.out.size))
    clear hb1 ho1
    go_wp2_with fail
    refine (AW.out _).mono ?_
    rintro e w2 ⟨rfl, hb2⟩
    have B2 := hid (B1.out.trans (hb2.mono B1.out.size))
    clear hb2
    go_wp2_with fail
    refine (AW.out _).mono ?_
    rintro e w3 ⟨rfl, hb3⟩
    have B3 := hid (B2.out.trans (hb3.mono B2.out.size))
    clear hb3
    go_wp2_with fail
    go_ret
    exact ⟨rfl, B3.out⟩

end Go.Proofs.Ytmlbmdcmedglaaa
