/- The walk of the example of chapter 28. -/
import Derived.Test.YthoidncbbcpnnaaGreatDoorKmE
namespace Go.Proofs.YthoidncbbcpnnaaGreatDoor
open Go.RowKit
set_option linter.unusedVariables false

/-! The example. -/
def exD : Nat → List U8
  | 0 => [1#8, 1#8, 5#8]
  | 1 => [1#8, 2#8, 5#8]
  | _ => [2#8, 2#8, 6#8]
def ex8R : List (Int × List V3) := [(1, (exD 0).map vC), (2, (exD 1).map vC), (3, (exD 2).map vC)]
theorem ex8R_at {k : Nat} (h : k < 3) : ex8R[k]? = some ((k : Int) + 1, (exD k).map vC) := by
  rcases (show k = 0 ∨ k = 1 ∨ k = 2 by omega) with rfl | rfl | rfl <;> rfl
theorem exD_length (k : Nat) : (exD k).length = 3 := by unfold exD; split <;> rfl
def ex8 (rs : List Row3) : T3 := (ByteArray.mk #[114], [ByteArray.mk #[97], ByteArray.mk #[98], ByteArray.mk #[99]], rs)

set_option maxHeartbeats 6400000 in
set_option maxRecDepth 100000 in
theorem ex8_any (w : World) : Calls Tryz.prog 32 #[] w fun e w' => ∃ (av rv : Value) (rs : List Row3), e = .returned (.agg #[.string (ByteArray.mk #[114]), av, rv]) ∧ RdT w' av rv (ex8 rs) ∧ rs.map (fun r => (r.1, r.2.2)) = ex8R ∧ Below w.heap.size w w' := by
  have LC := hid (fun (cs : List U8) (v : Value) (W : World) (h : RdE enc8 W v cs) (hl : cs.length ≤ 1000) => rlist_any cs v W h hl)
  have IW := hid (show ∀ x : Int, 0 ≤ x → x ≤ 1000 → IntKind.i64.wrap x = x from fun x h0 h1 => by rw [IntKind.wrap_i64]; omega)
  go_enter Tryz.func32, Tryz.ntmps32
  go_wp2_with fail
  obtain ⟨z0, z1, z2⟩ := cells3 (w := w) (a := .string (ByteArray.mk #[])) (b := .slice none 0 0) (c := .slice none 0 0) (t := 25) _ (Below.refl _ _)
  have zf : ∀ j, (w.alloc (.cells #[.string (ByteArray.mk #[]), .slice none 0 0, .slice none 0 0] 25)).frozen? ⟨w.heap.size, j, none⟩ = false := fun j => by simp
  have c0 := below_alloc w (.cells #[.string (ByteArray.mk #[]), .slice none 0 0, .slice none 0 0] 25)
  obtain ⟨a0, ha0⟩ : ∃ a0 : World, w.alloc (.cells #[.string (ByteArray.mk #[]), .slice none 0 0, .slice none 0 0] 25) = a0 := ⟨_, rfl⟩
  have q0 : a0.heap.size = w.heap.size + 1 := by rw [← ha0]; simp
  rw [ha0] at z0 z1 z2 zf c0 ⊢
  have AV := RdE.lit (f := encT) a0 [ByteArray.mk #[97], ByteArray.mk #[98], ByteArray.mk #[99]] 9 (by decide)
  have c1 := below_alloc a0 (.cells #[.string (ByteArray.mk #[97]), .string (ByteArray.mk #[98]), .string (ByteArray.mk #[99])] 9)
  replace AV : RdE encT (a0.alloc (.cells #[.string (ByteArray.mk #[97]), .string (ByteArray.mk #[98]), .string (ByteArray.mk #[99])] 9)) (.slice (some ⟨a0.heap.size, 0, none⟩) 3 3) [ByteArray.mk #[97], ByteArray.mk #[98], ByteArray.mk #[99]] := AV
  obtain ⟨a1, ha1⟩ : ∃ a1 : World, a0.alloc (.cells #[.string (ByteArray.mk #[97]), .string (ByteArray.mk #[98]), .string (ByteArray.mk #[99])] 9) = a1 := ⟨_, rfl⟩
  have q1 : a1.heap.size = w.heap.size + 1 + 1 := by rw [← ha1]; simp [q0]
  rw [ha1] at AV c1 ⊢
  rw [q0] at AV
  obtain ⟨y0, y1, y2⟩ := cells3 (w := a1) (a := .string (ByteArray.mk #[114])) (b := .slice (some ⟨w.heap.size + 1, 0, none⟩) 3 3) (c := .slice none 0 0) (t := 25) _ (Below.refl _ _)
  have yf : (a1.alloc (.cells #[.string (ByteArray.mk #[114]), .slice (some ⟨w.heap.size + 1, 0, none⟩) 3 3, .slice none 0 0] 25)).frozen? ⟨a1.heap.size, 2, none⟩ = false := by simp
  have c2 := below_alloc a1 (.cells #[.string (ByteArray.mk #[114]), .slice (some ⟨w.heap.size + 1, 0, none⟩) 3 3, .slice none 0 0] 25)
  obtain ⟨a2, ha2⟩ : ∃ a2 : World, a1.alloc (.cells #[.string (ByteArray.mk #[114]), .slice (some ⟨w.heap.size + 1, 0, none⟩) 3 3, .slice none 0 0] 25) = a2 := ⟨_, rfl⟩
  have q2 : a2.heap.size = w.heap.size + 1 + 1 + 1 := by rw [← ha2]; simp [q1]
  rw [ha2] at y0 y1 y2 yf c2 ⊢
  rw [q1] at y0 y1 y2 yf
  have R0 : RdE enc8 (a2.alloc (.cells #[.int .u8 1, .int .u8 1, .int .u8 5] 5)) (.slice (some ⟨a2.heap.size, 0, none⟩) 3 3) (exD 0) := RdE.lit (f := enc8) a2 (exD 0) 5 (by decide)
  have c3 := below_alloc a2 (.cells #[.int .u8 1, .int .u8 1, .int .u8 5] 5)
  obtain ⟨a3, ha3⟩ : ∃ a3 : World, a2.alloc (.cells #[.int .u8 1, .int .u8 1, .int .u8 5] 5) = a3 := ⟨_, rfl⟩
  have q3 : a3.heap.size = w.heap.size + 1 + 1 + 1 + 1 := by rw [← ha3]; simp [q2]
  rw [ha3] at R0 c3 ⊢
  have R1 : RdE enc8 (a3.alloc (.cells #[.int .u8 1, .int .u8 2, .int .u8 5] 5)) (.slice (some ⟨a3.heap.size, 0, none⟩) 3 3) (exD 1) := RdE.lit (f := enc8) a3 (exD 1) 5 (by decide)
  have c4 := below_alloc a3 (.cells #[.int .u8 1, .int .u8 2, .int .u8 5] 5)
  obtain ⟨a4, ha4⟩ : ∃ a4 : World, a3.alloc (.cells #[.int .u8 1, .int .u8 2, .int .u8 5] 5) = a4 := ⟨_, rfl⟩
  have q4 : a4.heap.size = w.heap.size + 1 + 1 + 1 + 1 + 1 := by rw [← ha4]; simp [q3]
  rw [ha4] at R1 c4 ⊢
  have R2 : RdE enc8 (a4.alloc (.cells #[.int .u8 2, .int .u8 2, .int .u8 6] 5)) (.slice (some ⟨a4.heap.size, 0, none⟩) 3 3) (exD 2) := RdE.lit (f := enc8) a4 (exD 2) 5 (by decide)
  have c5 := below_alloc a4 (.cells #[.int .u8 2, .int .u8 2, .int .u8 6] 5)
  obtain ⟨a5, ha5⟩ : ∃ a5 : World, a4.alloc (.cells #[.int .u8 2, .int .u8 2, .int .u8 6] 5) = a5 := ⟨_, rfl⟩
  have q5 : a5.heap.size = w.heap.size + 1 + 1 + 1 + 1 + 1 + 1 := by rw [← ha5]; simp [q4]
  rw [ha5] at R2 c5 ⊢
  rw [q2] at R0
  rw [q3] at R1
  rw [q4] at R2
  obtain ⟨o0, o1, o2⟩ := cells3 (w := a5) (a := .slice (some ⟨w.heap.size + 1 + 1 + 1, 0, none⟩) 3 3) (b := .slice (some ⟨w.heap.size + 1 + 1 + 1 + 1, 0, none⟩) 3 3) (c := .slice (some ⟨w.heap.size + 1 + 1 + 1 + 1 + 1, 0, none⟩) 3 3) (t := 96) _ (Below.refl _ _)
  have c6 := below_alloc a5 (.cells #[.slice (some ⟨w.heap.size + 1 + 1 + 1, 0, none⟩) 3 3, .slice (some ⟨w.heap.size + 1 + 1 + 1 + 1, 0, none⟩) 3 3, .slice (some ⟨w.heap.size + 1 + 1 + 1 + 1 + 1, 0, none⟩) 3 3] 96)
  obtain ⟨a6, ha6⟩ : ∃ a6 : World, a5.alloc (.cells #[.slice (some ⟨w.heap.size + 1 + 1 + 1, 0, none⟩) 3 3, .slice (some ⟨w.heap.size + 1 + 1 + 1 + 1, 0, none⟩) 3 3, .slice (some ⟨w.heap.size + 1 + 1 + 1 + 1 + 1, 0, none⟩) 3 3] 96) = a6 := ⟨_, rfl⟩
  have q6 : a6.heap.size = w.heap.size + 1 + 1 + 1 + 1 + 1 + 1 + 1 := by rw [← ha6]; simp [q5]
  rw [ha6] at o0 o1 o2 c6 ⊢
  rw [q5] at o0 o1 o2
  have d5 := c6
  have d4 : Below a4.heap.size a4 a6 := c5.trans (d5.mono (by omega))
  have d3 : Below a3.heap.size a3 a6 := c4.trans (d4.mono (by omega))
  have d2 : Below a2.heap.size a2 a6 := c3.trans (d3.mono (by omega))
  have d1 : Below a1.heap.size a1 a6 := c2.trans (d2.mono (by omega))
  have d0 : Below a0.heap.size a0 a6 := c1.trans (d1.mono (by omega))
  have dw : Below w.heap.size w a6 := c0.trans (d0.mono (by omega))
  replace AV := AV.below d1
  replace y0 := (d2.cell (p := ⟨w.heap.size + 1 + 1, 0, none⟩) (by show w.heap.size + 1 + 1 < _; omega)).trans y0
  replace y1 := (d2.cell (p := ⟨w.heap.size + 1 + 1, 1, none⟩) (by show w.heap.size + 1 + 1 < _; omega)).trans y1
  replace y2 := (d2.cell (p := ⟨w.heap.size + 1 + 1, 2, none⟩) (by show w.heap.size + 1 + 1 < _; omega)).trans y2
  replace yf := (d2.frozen (p := ⟨w.heap.size + 1 + 1, 2, none⟩) (by show w.heap.size + 1 + 1 < _; omega)).trans yf
  replace z0 := (d0.cell (p := ⟨w.heap.size, 0, none⟩) (by show w.heap.size < _; omega)).trans z0
  replace z1 := (d0.cell (p := ⟨w.heap.size, 1, none⟩) (by show w.heap.size < _; omega)).trans z1
  replace z2 := (d0.cell (p := ⟨w.heap.size, 2, none⟩) (by show w.heap.size < _; omega)).trans z2
  replace zf : ∀ j, a6.frozen? ⟨w.heap.size, j, none⟩ = false := fun j => (d0.frozen (p := ⟨w.heap.size, j, none⟩) (by show w.heap.size < _; omega)).trans (zf j)
  replace R0 := R0.below d3
  replace R1 := R1.below d4
  replace R2 := R2.below d5
  obtain ⟨tb, htb⟩ : ∃ tb, w.heap.size + 1 + 1 = tb := ⟨_, rfl⟩
  rw [htb] at y0 y1 y2 yf R0 R1 R2 o0 o1 o2 q6 ⊢
  have HT := hid htb
  have HC := hid (show ∀ k, k < 3 → ∃ b, tb < b ∧ b < a6.heap.size ∧ a6.cell? ⟨tb + 1 + 1 + 1 + 1, k, none⟩ = some (.slice (some ⟨b, 0, none⟩) 3 3) ∧ RdE enc8 a6 (.slice (some ⟨b, 0, none⟩) 3 3) (exD k) from fun k hk => by
    rcases (show k = 0 ∨ k = 1 ∨ k = 2 by omega) with rfl | rfl | rfl
    · exact ⟨_, by omega, by omega, o0, R0⟩
    · exact ⟨_, by omega, by omega, o1, R1⟩
    · exact ⟨_, by omega, by omega, o2, R2⟩)
  have HAV := hid AV
  have HZ := hid (And.intro z0 (And.intro z1 (And.intro z2 zf)))
  have HQ6 := hid q6
  have HDW := hid dw
  have HY := hid (And.intro y0 (And.intro y1 (And.intro y2 yf)))
  clear z0 z1 z2 zf y0 y1 y2 yf R0 R1 R2 o0 o1 o2 q0 q1 q2 q3 q4 q5 q6 c0 c1 c2 c3 c4 c5 c6 d0 d1 d2 d3 d4 d5 dw AV ha0 ha1 ha2 ha3 ha4 ha5 ha6 htb
  go_loopw [11] (fun i wr => ∃ (k : Nat) (rs : List Row3) (tv : Value), k ≤ 3 ∧ i = .int .i64 k ∧ (wr.cell? ⟨tb, 0, none⟩ = some (.string (ByteArray.mk #[114])) ∧ wr.cell? ⟨tb, 1, none⟩ = some (.slice (some ⟨w.heap.size + 1, 0, none⟩) 3 3) ∧ wr.cell? ⟨tb, 2, none⟩ = some tv) ∧ wr.frozen? ⟨tb, 2, none⟩ = false ∧ wr.ownsRow a6.heap.size 90 2 tv rs.length (rs.flatMap cR) ∧ Hid (∀ r ∈ rs, RdV wr r.2.1 r.2.2 ∧ FarV r.2.1 tv.ownBlock ∧ (∀ j, j ≤ tb → FarV r.2.1 (some j))) ∧ Hid (rs.map (fun r => (r.1, r.2.2)) = ex8R.take k) ∧ Hid (KeptX a6.heap.size tb a6 wr) ∧ a6.heap.size ≤ wr.heap.size) (fun i _ => 3 - (intOf i).toNat)
  case atStart => exact ⟨0, [], _, by omega, rfl, ⟨HY.out.1, HY.out.2.1, HY.out.2.2.1⟩, HY.out.2.2.2, World.ownsRow_nil _ _ _ _, hid (fun _ h => absurd h (by simp)), hid rfl, hid (KeptX.refl _ _ _), Nat.le_refl _⟩
  case round =>
    obtain ⟨k, rs, tv, hk, rfl, ⟨t0, t1, t2⟩, tf, hown, HRS, HM, HKX, hM6⟩ := hrel
    have hso : tb < wr.heap.size := World.block_lt_of_cell? _ _ t0
    have HRL := hid (show rs.length ≤ 3 by have := congrArg List.length HM.out; rw [List.length_map] at this; have h2 := List.length_take_le k ex8R; omega)
    have htb6 : tb < a6.heap.size := by have := HQ6.out; omega
    have k0 : (0 : Int) ≤ (k : Int) := by omega
    by_cases hlt : k < 3
    · have k3 : (k : Int) < 3 := by omega
      obtain ⟨b, hb1, hb2, hbc, hbr⟩ := HC.out k hlt
      have e0 := (HKX.out.cell (o := k) (show tb < tb + 1 + 1 + 1 + 1 by omega) (by have := HQ6.out; omega)).trans hbc
      have HBR := hid (HKX.out.rd hbr hb1 hb2 hM6)
      have E1 : IntKind.i64.wrap ((k : Int) + 1) = (k : Int) + 1 := IW.out _ (by omega) (by omega)
      have KS := hid (fun (W : World) (h : Below wr.heap.size wr W) => show W.cell? ⟨tb, 0, none⟩ = some (.string (ByteArray.mk #[114])) ∧ W.cell? ⟨tb, 1, none⟩ = some (.slice (some ⟨w.heap.size + 1, 0, none⟩) 3 3) ∧ W.cell? ⟨tb, 2, none⟩ = some tv ∧ W.frozen? ⟨tb, 2, none⟩ = false from
        ⟨(h.cell (p := ⟨tb, 0, none⟩) hso).trans t0, (h.cell (p := ⟨tb, 1, none⟩) hso).trans t1, (h.cell (p := ⟨tb, 2, none⟩) hso).trans t2, (h.frozen (p := ⟨tb, 2, none⟩) hso).trans tf⟩)
      have HNT := hid (show some tb ≠ tv.ownBlock from fun e => by have := (hown.lt _ e.symm).1; omega)
      have HO := hid hown
      have HSO := hid hso
      have HM6 := hid hM6
      have HLT := hid hlt
      have EXK := hid (ex8R_at hlt)
      have LCk := hid (fun (W : World) (h : Below wr.heap.size wr W) => LC.out (exD k) _ W (HBR.out.below h) (by rw [exD_length]; omega))
      have VL := hid (show ((exD k).map vC).length = 3 by rw [List.length_map, exD_length])
      obtain ⟨vs, hvs⟩ : ∃ vs, (exD k).map vC = vs := ⟨_, rfl⟩
      rw [hvs] at EXK LCk VL
      have LEN9 := hid (fun y : Row3 => show (rs ++ [y]).length ≤ 35184372088832 by have := HRL.out; rw [List.length_append, List.length_singleton]; omega)
      have CNR := hid (fun (W : World) (y : Row3) => cells_newR W y (t := 90))
      clear hbc hbr hvs hown hM6
      go_wp2_with fail
      go_region_law (first
        | (go_simp; go_at_call 63; refine (LCk.out _ (below_drewN wr.heap.size wr 1)).mono ?_; rintro e w5 ⟨v5, rfl, hov, hb5⟩; have hL := (below_drewN wr.heap.size wr 1).trans hb5; have hrv := RdC.of_owns cV_length hov (by have := VL.out; omega); have hfv : ∀ j, j < wr.heap.size → FarV v5 (some j) := (fun j hj => far_own hov hj); obtain ⟨o5, cap5, hv5, -⟩ := RdV.split hrv; rw [VL.out] at hv5; subst hv5; have ho5 := own_below HO.out.drew hb5; obtain ⟨d0, d1, d2, d3⟩ := KS.out _ hL; obtain ⟨b0, b1, b2, b3⟩ := KS.out _ (hL.alloc hL.size (.cells #[.int .i64 ((k : Int) + 1), .slice o5 3 cap5] 90)); clear hb5 hov)
        | (refine step_pushB (by rfl) _ _ 23 (by rfl) a6.heap.size 90 (.agg #[.int .i64 0, .slice none 0 0]) 2 32 undRows infoRow rfl (by decide) (by decide) cR cR_length _ rs (by rfl) (ho5.alloc (.cells #[.int .i64 ((k : Int) + 1), .slice o5 3 cap5] 90)) ⟨w5.heap.size, 0, none⟩ (((k : Int) + 1, .slice o5 3 cap5, vs) : Row3) (by intro u hu; simp [cR] at hu; rcases hu with rfl | rfl <;> rfl) (by rfl) (CNR.out w5 (((k : Int) + 1, .slice o5 3 cap5, vs) : Row3)) (by have := HRL.out; omega) (by have := HM6.out; have := hL.size; simp; omega) ?_; intro v8 w8 hown8' hg8 hv8; obtain ⟨o8, cap8, rfl, -⟩ := RdC.of_owns cR_length hown8' (LEN9.out _); have u0 := (hg8.cell_far ⟨tb, 0, none⟩ (World.block_lt_of_cell? _ _ b0) HNT.out).trans b0; have u1 := (hg8.cell_far ⟨tb, 1, none⟩ (World.block_lt_of_cell? _ _ b1) HNT.out).trans b1; have u2 := (hg8.cell_far ⟨tb, 2, none⟩ (World.block_lt_of_cell? _ _ b2) HNT.out).trans b2; have uf := (hg8.frozen_far ⟨tb, 2, none⟩ (World.block_lt_of_cell? _ _ b2) HNT.out).trans b3))
      all_goals
        obtain ⟨y, hy⟩ : ∃ y : Row3, (((k : Int) + 1, .slice o5 3 cap5, vs) : Row3) = y := ⟨_, rfl⟩
        have HY1 := hid (show y.2.1 = .slice o5 3 cap5 by rw [← hy])
        have HY2 := hid (show y.2.2 = vs by rw [← hy])
        have YM := hid (show ((y.1, y.2.2) : Int × List V3) = ((k : Int) + 1, vs) by rw [← hy])
        have hown8 : w8.ownsRow a6.heap.size 90 2 (.slice o8 (rs ++ [(((k : Int) + 1, .slice o5 3 cap5, vs) : Row3)]).length cap8) (rs ++ [y]).length ((rs ++ [y]).flatMap cR) := by rw [← hy]; exact hown8'
        rw [hy] at hown8 hv8
        try rw [hy]
        have hba := below_alloc w5 (.cells #[.int .i64 ((k : Int) + 1), .slice o5 3 cap5] 90)
        have RV := hid (show RdV (w5.alloc (.cells #[.int .i64 ((k : Int) + 1), .slice o5 3 cap5] 90)) y.2.1 y.2.2 by rw [HY1.out, HY2.out]; exact RdC.below hrv hba)
        have FV := hid (show ∀ j, j < wr.heap.size → FarV y.2.1 (some j) by rw [HY1.out]; exact hfv)
        have BWA := hid (hL.trans (hba.mono hL.size))
        have hsa : wr.heap.size ≤ (w5.alloc (.cells #[.int .i64 ((k : Int) + 1), .slice o5 3 cap5] 90)).heap.size := BWA.out.size
        obtain ⟨wa, hwa⟩ : ∃ wa : World, w5.alloc (.cells #[.int .i64 ((k : Int) + 1), .slice o5 3 cap5] 90) = wa := ⟨_, rfl⟩
        rw [hwa] at RV hg8 hv8 BWA hsa
        have KX8 := (HKX.out.later BWA.out HM6.out (by have := HSO.out; omega)).grown hg8 (Nat.le_trans HM6.out hsa) (by omega) (fun j hj => (HO.out.lt j hj).1)
        have KX9 := hid (KX8.set (o := 2) (.slice o8 (rs ++ [y]).length cap8))
        have OW9 := hid (ownsRow_setCell_other hown8 (a := ⟨tb, 2, none⟩) (fun e => absurd (hown8.lt _ e).1 (Nat.not_le.2 htb6)) (.slice o8 (rs ++ [y]).length cap8))
        have HM9 := hid (show (rs ++ [y]).map (fun r => (r.1, r.2.2)) = ex8R.take (k + 1) by rw [List.map_append, HM.out, take_next EXK.out, List.map_singleton, YM.out])
        have HS9 := hid (show a6.heap.size ≤ (w8.setCell ⟨tb, 2, none⟩ (.slice o8 (rs ++ [y]).length cap8)).heap.size by have h1 := hg8.size; have h2 := HM6.out; simp; omega)
        have HR9 := hid (show ∀ r' ∈ rs ++ [y], RdV (w8.setCell ⟨tb, 2, none⟩ (.slice o8 (rs ++ [y]).length cap8)) r'.2.1 r'.2.2 ∧ FarV r'.2.1 (Value.slice o8 (rs ++ [y]).length cap8).ownBlock ∧ (∀ j, j ≤ tb → FarV r'.2.1 (some j)) by
          intro r' hr'
          rcases List.mem_append.1 hr' with h | h
          · obtain ⟨p1, p2, p3⟩ := HRS.out r' h
            have p4 := RdC.grown (RdC.below p1 BWA.out) hg8 p2
            refine ⟨RdC.setFar p4 (p3 tb (Nat.le_refl _)), ?_, p3⟩
            rcases hv8 with e | e
            · rw [e]; exact p2
            · rw [e]; intro a len cap e1 hl e2
              obtain ⟨ao', cap', e3, -, -, h3⟩ := p1
              rw [e3] at e1; cases e1
              obtain ⟨b9, off9, e4, hlt9, -⟩ := h3 hl
              cases e4; simp at e2; omega
          · obtain rfl := List.mem_singleton.1 h
            have pt : FarV r'.2.1 tv.ownBlock := by
              cases ho : tv.ownBlock with
              | none => intro a len cap _ _ e2; cases e2
              | some j => exact FV.out j (HO.out.lt j ho).2
            have p4 := RdC.grown RV.out hg8 pt
            have pb : ∀ j, j ≤ tb → FarV r'.2.1 (some j) := fun j hj => FV.out j (by have := HSO.out; omega)
            refine ⟨RdC.setFar p4 (pb tb (Nat.le_refl _)), ?_, pb⟩
            rcases hv8 with e | e
            · rw [e]; exact pt
            · rw [e]; intro a len cap e1 hl e2
              obtain ⟨ao', cap', e3, -, -, h3⟩ := RV.out
              rw [e3] at e1; cases e1
              obtain ⟨b9, off9, e4, hlt9, -⟩ := h3 hl
              cases e4; simp at e2; omega)
        have g0 : (w8.setCell ⟨tb, 2, none⟩ (.slice o8 (rs ++ [y]).length cap8)).cell? ⟨tb, 0, none⟩ = _ := (World.cell?_setCell_other _ _ _ _ (by simp)).trans u0
        have g1 : (w8.setCell ⟨tb, 2, none⟩ (.slice o8 (rs ++ [y]).length cap8)).cell? ⟨tb, 1, none⟩ = _ := (World.cell?_setCell_other _ _ _ _ (by simp)).trans u1
        have g2 : (w8.setCell ⟨tb, 2, none⟩ (.slice o8 (rs ++ [y]).length cap8)).cell? ⟨tb, 2, none⟩ = some (.slice o8 (rs ++ [y]).length cap8) := World.cell?_setCell_same _ _ _ u2
        have gf : (w8.setCell ⟨tb, 2, none⟩ (.slice o8 (rs ++ [y]).length cap8)).frozen? ⟨tb, 2, none⟩ = false := by simp [uf]
        have GG := hid (And.intro g0 (And.intro g1 (And.intro g2 gf)))
        clear g0 g1 g2 gf hown8 hown8' hg8 hv8 hy hwa hsa hba E1 hrv hfv hL ho5 u0 u1 u2 uf KX8 b0 b1 b2 b3 d0 d1 d2 d3 t0 t1 t2 tf
        try rw [show rs.length + 1 = (rs ++ [y]).length by simp]
        generalize w8.setCell ⟨tb, 2, none⟩ (.slice o8 (rs ++ [y]).length cap8) = w9 at *
        go_wp2_with fail
        go_roundw
        case rel => exact ⟨k + 1, rs ++ [y], _, by have := HLT.out; omega, by go_num, ⟨GG.out.1, GG.out.2.1, GG.out.2.2.1⟩, GG.out.2.2.2, OW9.out, HR9, HM9, KX9, HS9.out⟩
        case measure => have := HLT.out; simp [intOf]; omega
    · have hk3 : k = 3 := by omega
      have HMf := hid (show rs.map (fun r => (r.1, r.2.2)) = ex8R by rw [HM.out, hk3]; rfl)
      have RT := hid (show RdC cR wr tv rs from RdC.of_owns cR_length hown (by have := HRL.out; omega))
      obtain ⟨to, tcap, rfl, -⟩ := RdC.of_owns cR_length hown (by have := HRL.out; omega)
      have TF := hid (fun (j : Nat) (hj : j < a6.heap.size) => far_own hown hj)
      have HBX := hid HKX.out.below
      have AV9 := hid (HAV.out.belowB (B := tb) (by have := HT.out; omega) HBX.out)
      have hwt : w.heap.size < tb := by have := HT.out; omega
      have z0 := (HBX.out.cell (p := ⟨w.heap.size, 0, none⟩) hwt).trans HZ.out.1
      have z1 := (HBX.out.cell (p := ⟨w.heap.size, 1, none⟩) hwt).trans HZ.out.2.1
      have z2 := (HBX.out.cell (p := ⟨w.heap.size, 2, none⟩) hwt).trans HZ.out.2.2.1
      have zf0 := (HBX.out.frozen (p := ⟨w.heap.size, 0, none⟩) hwt).trans (HZ.out.2.2.2 0)
      have zf1 := (HBX.out.frozen (p := ⟨w.heap.size, 1, none⟩) hwt).trans (HZ.out.2.2.2 1)
      have zf2 := (HBX.out.frozen (p := ⟨w.heap.size, 2, none⟩) hwt).trans (HZ.out.2.2.2 2)
      have BF := hid (HDW.out.trans (HBX.out.mono (Nat.le_of_lt hwt)))
      have HWT := hid hwt
      have HT6 := hid htb6
      clear hown hwt htb6
      go_wp2_with fail
      obtain ⟨wf, hwf⟩ : ∃ wf : World, ((wr.setCell ⟨w.heap.size, 0, none⟩ (.string (ByteArray.mk #[114]))).setCell ⟨w.heap.size, 1, none⟩ (.slice (some ⟨w.heap.size + 1, 0, none⟩) 3 3)).setCell ⟨w.heap.size, 2, none⟩ (.slice to rs.length tcap) = wf := ⟨_, rfl⟩
      obtain ⟨r0, r1, r2⟩ := set3w z0 z1 z2 hwf
      have QA : RdE encT wf (.slice (some ⟨w.heap.size + 1, 0, none⟩) 3 3) [ByteArray.mk #[97], ByteArray.mk #[98], ByteArray.mk #[99]] := by
        rw [← hwf]; exact RdE.set3 AV9.out (fun a len cap e _ e2 => by cases e; simp at e2)
      have QR : RdC cR wf (.slice to rs.length tcap) rs := by rw [← hwf]; exact RdC.set3 RT.out (TF.out _ (by have := HWT.out; have := HT6.out; omega))
      have QV : ∀ r ∈ rs, RdV wf r.2.1 r.2.2 := fun r hr => by rw [← hwf]; exact RdC.set3 (HRS.out r hr).1 ((HRS.out r hr).2.2 _ (by have := HWT.out; omega))
      have QB : Below w.heap.size w wf := by rw [← hwf]; exact ((BF.out.setCell (p := ⟨w.heap.size, 0, none⟩) (by simp) _).setCell (p := ⟨w.heap.size, 1, none⟩) (by simp) _).setCell (p := ⟨w.heap.size, 2, none⟩) (by simp) _
      rw [hwf]
      exact bodyPost_ret (v := .agg #[.string (ByteArray.mk #[114]), .slice (some ⟨w.heap.size + 1, 0, none⟩) 3 3, .slice to rs.length tcap]) (by simp [results, Tryz.results32, go_sem, r0, r1, r2]) rfl ⟨_, _, rs, rfl, ⟨QA, QR, QV⟩, HMf.out, QB⟩

end Go.Proofs.YthoidncbbcpnnaaGreatDoor
