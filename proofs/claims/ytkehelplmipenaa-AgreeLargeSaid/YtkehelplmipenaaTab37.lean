/- The law AgreeLarge: the walk. -/
import Derived.Test.YtkehelplmipenaaTab36
namespace Go.Proofs.Ytkehelplmipenaa
open Go.RowKit
set_option linter.unusedVariables false

theorem cells_newRd (w : World) (o : Obj) (y : Row3) {t : TypeId} : ∀ j u, (cR y)[j]? = some u → (((w.alloc o).alloc (.cells #[.int .i64 y.1, y.2.1] t)).drew).cell? (Addr.add ⟨w.heap.size + 1, 0, none⟩ j) = some u := by
  intro j u hj
  rw [World.cell?_drew]
  have := cells_newR (w.alloc o) y (t := t) j u hj
  rwa [show (w.alloc o).heap.size = w.heap.size + 1 by simp] at this
theorem large_arity (rs : List Row3) : arityE (exL rs) 0 = tabE2 (exL rs) := by
  unfold arityE
  by_cases h : tabE2 (exL rs) = 0
  · rw [if_neg (by rw [h]; simp), if_neg (by simp [exL]), h]
  · rw [if_pos h]
theorem large_of {K N : Nat} {rs : List Row3} (h : rs.map (fun r => (r.1, r.2.2)) = largeL K N) (hN : 2 ≤ N) : (ofS (exL rs) 1 2).2 = tabE2 (exL rs) := by
  by_cases he : tabE2 (exL rs) = 0
  · have key : ∀ j, j < N → ∃ r, rs[j]? = some r ∧ r.1 = (j : Int) + 1 := by
      intro j hj
      have hl : rs.length = N := by have := congrArg List.length h; simpa [largeL] using this
      obtain ⟨r, hr⟩ := get_some (show j < rs.length by omega)
      have e := congrArg (fun l => l[j]?) h
      simp only [List.getElem?_map, hr, Option.map_some] at e
      rw [largeL_at hj, Option.some.injEq, Prod.mk.injEq] at e
      exact ⟨r, hr, e.1⟩
    obtain ⟨r0, h0, i0⟩ := key 0 (by omega)
    obtain ⟨r1, h1, i1⟩ := key 1 (by omega)
    have f1 : fnd rs 1 = some 0 := by
      show fndFrom 0 (rs.drop 0) 1 = _
      rw [fnd_at h0, if_pos (by rw [i0]; rfl)]
    have f2 : fnd rs 2 = some 1 := by
      show fndFrom 0 (rs.drop 0) 2 = _
      rw [fnd_at h0, if_neg (by rw [i0]; decide), fnd_at h1, if_pos (by rw [i1]; rfl)]
    rw [ofS_some (t := exL rs) he f1 f2 h0 h1, he]
  · rw [ofS_err he]
theorem large_pairs {K N : Nat} {rs : List Row3} (h : rs.map (fun r => (r.1, r.2.2)) = largeL K N) (hN : 2 ≤ N) : pairsS rs ≠ [] := by
  have hl : rs.length = N := by have := congrArg List.length h; simpa [largeL] using this
  match rs, hl with
  | [], hl => simp at hl; omega
  | [_], hl => simp at hl; omega
  | r :: q :: rest, _ => unfold pairsS; simp
theorem RdE.belowB {α : Type} {f : α → Value} {w w' : World} {b off n cap B : Nat} {xs : List α} (h : RdE f w (.slice (some ⟨b, off, none⟩) n cap) xs) (hb : b < B) (hn : Below B w w') : RdE f w' (.slice (some ⟨b, off, none⟩) n cap) xs := by
  obtain ⟨ao, cap', e, h1, h2, h3⟩ := h
  cases e
  refine ⟨_, cap, rfl, h1, h2, fun hp => ?_⟩
  obtain ⟨b', off', e, hlt, hc⟩ := h3 hp
  cases e
  exact ⟨b, off, rfl, Nat.lt_of_lt_of_le hlt hn.size, fun i x hx => (hn.cell (p := ⟨b, off + i, none⟩) hb).trans (hc i x hx)⟩
attribute [local irreducible] Go.wpQuiet
set_option maxHeartbeats 3200000 in
set_option maxRecDepth 100000 in
theorem gLargeL (n8 k8 : U8) (w : World) :
    Calls Try.prog 8 #[.int .u8 (n8.toNat : Int), .int .u8 (k8.toNat : Int)] w fun e w' => e = .returned (.bool true) ∧ Below w.heap.size w w' := by
  have AW := hid (fun (W : World) => awake27_any W)
  have hnl := n8.isLt
  have hkl := k8.isLt
  obtain ⟨q, hq⟩ : ∃ q, n8.toNat % 5 = q := ⟨_, rfl⟩
  have hq5 : q < 5 := by omega
  obtain ⟨K, hK⟩ : ∃ K, k8.toNat % 7 + 1 = K := ⟨_, rfl⟩
  have hK1 : 1 ≤ K := by omega
  have hK7 : K ≤ 7 := by omega
  have u8w : ∀ x : Int, 0 ≤ x → x ≤ 6 → IntKind.u8.wrap (x + 1) = x + 1 := fun x h0 h1 => by rw [IntKind.wrap_u8]; omega
  have i6w : ∀ x : Int, 0 ≤ x → x ≤ 1000 → IntKind.i64.wrap x = x := fun x h0 h1 => by rw [IntKind.wrap_i64]; omega
  have UW := hid u8w
  have IW := hid i6w
  clear u8w i6w
  have NQ := hid (show (n8.toNat : Int) % 5 = (q : Int) by omega)
  have KQ := hid (show (k8.toNat : Int) % 7 + 1 = (K : Int) by omega)
  have n0 : (0 : Int) ≤ (n8.toNat : Int) := by omega
  have n1 : (n8.toNat : Int) ≤ 255 := by omega
  have k0 : (0 : Int) ≤ (k8.toNat : Int) := by omega
  have k1 : (k8.toNat : Int) ≤ 255 := by omega
  obtain ⟨N, hN⟩ : ∃ N, 198 + q = N := ⟨_, rfl⟩
  have HN := hid (show (198 : Int) + (q : Int) = (N : Int) by omega)
  have hN2 : N ≤ 202 := by omega
  have hN1 : 198 ≤ N := by omega
  have q0 : (0 : Int) ≤ (q : Int) := by omega
  have q1 : (q : Int) ≤ 4 := by omega
  generalize (n8.toNat : Int) = ni at *
  generalize (k8.toNat : Int) = ki at *
  clear hnl hkl hq hK
  go_enter Try.func8, Try.ntmps8
  go_wp2_with fail
  refine (AW.out _).mono ?_
  rintro e w1 ⟨rfl, hb1⟩
  have B1 := hid hb1
  clear hb1
  go_wp2_with fail
  have hb2 : Below w1.heap.size w1 ((w1.alloc (.cells #[.string (ByteArray.mk #[97]), .string (ByteArray.mk #[98])] 9)).alloc (.cells #[.string (ByteArray.mk #[114]), .slice (some ⟨w1.heap.size, 0, none⟩) 2 2, .slice none 0 0] 25)) := ((Below.refl _ _).alloc (Nat.le_refl _) _).alloc (by simp) _
  have AV := hid (show RdE encT ((w1.alloc (.cells #[.string (ByteArray.mk #[97]), .string (ByteArray.mk #[98])] 9)).alloc (.cells #[.string (ByteArray.mk #[114]), .slice (some ⟨w1.heap.size, 0, none⟩) 2 2, .slice none 0 0] 25)) (.slice (some ⟨w1.heap.size, 0, none⟩) 2 2) [ByteArray.mk #[97], ByteArray.mk #[98]] from (RdE.lit (f := encT) w1 [ByteArray.mk #[97], ByteArray.mk #[98]] 9 (by decide)).below (below_alloc _ _))
  have hsa : (w1.alloc (.cells #[.string (ByteArray.mk #[97]), .string (ByteArray.mk #[98])] 9)).heap.size = w1.heap.size + 1 := by simp
  have TT := cells3 (w := w1.alloc (.cells #[.string (ByteArray.mk #[97]), .string (ByteArray.mk #[98])] 9)) (a := .string (ByteArray.mk #[114])) (b := .slice (some ⟨w1.heap.size, 0, none⟩) 2 2) (c := .slice none 0 0) (t := 25) _ (Below.refl _ _)
  have TF : ((w1.alloc (.cells #[.string (ByteArray.mk #[97]), .string (ByteArray.mk #[98])] 9)).alloc (.cells #[.string (ByteArray.mk #[114]), .slice (some ⟨w1.heap.size, 0, none⟩) 2 2, .slice none 0 0] 25)).frozen? ⟨(w1.alloc (.cells #[.string (ByteArray.mk #[97]), .string (ByteArray.mk #[98])] 9)).heap.size, 2, none⟩ = false := by simp
  rw [hsa] at TT TF
  obtain ⟨w2, hw2⟩ : ∃ w2 : World, (w1.alloc (.cells #[.string (ByteArray.mk #[97]), .string (ByteArray.mk #[98])] 9)).alloc (.cells #[.string (ByteArray.mk #[114]), .slice (some ⟨w1.heap.size, 0, none⟩) 2 2, .slice none 0 0] 25) = w2 := ⟨_, rfl⟩
  have hs2 : w2.heap.size = w1.heap.size + 1 + 1 := by rw [← hw2]; simp
  rw [hw2] at hb2 AV TT TF
  have W2 := hid hw2
  obtain ⟨tb, htb⟩ : ∃ tb, w1.heap.size + 1 = tb := ⟨_, rfl⟩
  rw [htb] at TT TF
  have HTB := hid htb
  have HS2 := hid (show w2.heap.size = tb + 1 by omega)
  have B2 := hid (B1.out.trans (hb2.mono B1.out.size))
  have TT2 := hid (And.intro TT TF)
  clear hb2 hw2 hs2 hsa TT TF htb
  rw [NQ.out, HN.out, W2.out, HTB.out]
  go_loopw [28] (fun i wr => ∃ (k : Nat) (rs : List Row3) (tv : Value), k ≤ N ∧ i = .int .i64 k ∧ (wr.cell? ⟨tb, 0, none⟩ = some (.string (ByteArray.mk #[114])) ∧ wr.cell? ⟨tb, 1, none⟩ = some (.slice (some ⟨w1.heap.size, 0, none⟩) 2 2) ∧ wr.cell? ⟨tb, 2, none⟩ = some tv) ∧ wr.frozen? ⟨tb, 2, none⟩ = false ∧ wr.ownsRow (tb + 1) 67 2 tv rs.length (rs.flatMap cR) ∧ Hid (∀ r ∈ rs, RdV wr r.2.1 r.2.2 ∧ FarV r.2.1 tv.ownBlock ∧ FarV r.2.1 (some tb)) ∧ Hid (rs.map (fun r => (r.1, r.2.2)) = (largeL K N).take k) ∧ Hid (Below tb w2 wr)) (fun i _ => N - (intOf i).toNat)
  case atStart => exact ⟨0, [], _, Nat.zero_le _, rfl, TT2.out.1, TT2.out.2, World.ownsRow_nil _ _ _ _, hid (fun _ h => absurd h (by simp)), hid rfl, hid (Below.refl _ _)⟩
  case round =>
    obtain ⟨i, rs, tv, hk, rfl, ⟨t0, t1, t2⟩, tf, hown, HRS, HM, HNX⟩ := hrel
    have hso : tb < wr.heap.size := World.block_lt_of_cell? _ _ t0
    have HRL := hid (show rs.length ≤ 202 by have := congrArg List.length HM.out; simp at this; omega)
    by_cases hlt : i < N
    · have i0 : (0 : Int) ≤ (i : Int) := by omega
      have i8 : (i : Int) ≤ 202 := by omega
      have HO := hid hown
      have HSO := hid hso
      obtain ⟨km, hkm⟩ : ∃ km, ki.tmod 7 = km := ⟨_, rfl⟩
      have hkm2 : km = ki % 7 := by rw [← hkm, Int.tmod_eq_emod_of_nonneg k0]
      have E1 : IntKind.i64.wrap ((i : Int) + 1) = (i : Int) + 1 := IW.out _ (by omega) (by omega)
      have E2 : ((i : Int)).tmod 3 = (i : Int) % 3 := by rw [Int.tmod_eq_emod_of_nonneg i0]
      have E4 : IntKind.u8.wrap (km + 1) = (K : Int) := by rw [UW.out _ (by omega) (by omega), hkm2]; exact KQ.out
      have E5 : IntKind.i64.wrap (K : Int) = (K : Int) := IW.out _ (by omega) (by omega)
      have E6 : ¬ (K = 0) := by omega
      have E7 : ((i : Int)).tmod (K : Int) = (i : Int) % (K : Int) := by rw [Int.tmod_eq_emod_of_nonneg i0]
      clear hkm2
      have hba0 : Below wr.heap.size wr ((wr.alloc (.cells #[.int .i64 1, .int .i64 ((i : Int) % 3), .string (ByteArray.mk #[]), .int .i64 1, .int .i64 ((i : Int) % (K : Int)), .string (ByteArray.mk #[])] 64)).alloc (.cells #[.int .i64 ((i : Int) + 1), .slice (some ⟨wr.heap.size, 0, none⟩) 2 2] 67)).drew := (((Below.refl _ _).alloc (Nat.le_refl _) _).alloc (by simp) _).drew
      have HNT := hid (show some tb ≠ tv.ownBlock from fun e => Nat.not_succ_le_self _ (HO.out.lt _ e.symm).1)
      have la0 : tb < ((wr.alloc (.cells #[.int .i64 1, .int .i64 ((i : Int) % 3), .string (ByteArray.mk #[]), .int .i64 1, .int .i64 ((i : Int) % (K : Int)), .string (ByteArray.mk #[])] 64)).alloc (.cells #[.int .i64 ((i : Int) + 1), .slice (some ⟨wr.heap.size, 0, none⟩) 2 2] 67)).drew.heap.size := Nat.lt_of_lt_of_le hso hba0.size
      have UU := hid (fun (W : World) (h : World.grownBy ((wr.alloc (.cells #[.int .i64 1, .int .i64 ((i : Int) % 3), .string (ByteArray.mk #[]), .int .i64 1, .int .i64 ((i : Int) % (K : Int)), .string (ByteArray.mk #[])] 64)).alloc (.cells #[.int .i64 ((i : Int) + 1), .slice (some ⟨wr.heap.size, 0, none⟩) 2 2] 67)).drew W tv.ownBlock) => show W.cell? ⟨tb, 0, none⟩ = some (.string (ByteArray.mk #[114])) ∧ W.cell? ⟨tb, 1, none⟩ = some (.slice (some ⟨w1.heap.size, 0, none⟩) 2 2) ∧ W.cell? ⟨tb, 2, none⟩ = some tv ∧ W.frozen? ⟨tb, 2, none⟩ = false from
        ⟨(h.cell_far ⟨tb, 0, none⟩ la0 HNT.out).trans ((hba0.cell (p := ⟨tb, 0, none⟩) hso).trans t0), (h.cell_far ⟨tb, 1, none⟩ la0 HNT.out).trans ((hba0.cell (p := ⟨tb, 1, none⟩) hso).trans t1), (h.cell_far ⟨tb, 2, none⟩ la0 HNT.out).trans ((hba0.cell (p := ⟨tb, 2, none⟩) hso).trans t2), (h.frozen_far ⟨tb, 2, none⟩ la0 HNT.out).trans ((hba0.frozen (p := ⟨tb, 2, none⟩) hso).trans tf)⟩)
      have LEN8 := hid (fun (v : Value) (W : World) (h : W.ownsRow (tb + 1) 67 2 v (rs ++ [(((i : Int) + 1, Value.slice (some ⟨wr.heap.size, 0, none⟩) 2 2, [numV ((i : Int) % 3), numV ((i : Int) % (K : Int))]) : Row3)]).length ((rs ++ [(((i : Int) + 1, Value.slice (some ⟨wr.heap.size, 0, none⟩) 2 2, [numV ((i : Int) % 3), numV ((i : Int) % (K : Int))]) : Row3)]).flatMap cR)) => RdC.of_owns cR_length h (show (rs ++ [(((i : Int) + 1, Value.slice (some ⟨wr.heap.size, 0, none⟩) 2 2, [numV ((i : Int) % 3), numV ((i : Int) % (K : Int))]) : Row3)]).length ≤ 35184372088832 by have := HRL.out; rw [List.length_append, List.length_singleton]; omega))
      clear hba0 la0
      go_wp2_with fail
      go_region_law ((refine step_pushB (by rfl) _ _ 23 (by rfl) (tb + 1) 67 (.agg #[.int .i64 0, .slice none 0 0]) 2 32 undRows infoRow rfl (by decide) (by decide) cR cR_length _ rs (by rfl) (((HO.out.alloc (.cells #[.int .i64 1, .int .i64 ((i : Int) % 3), .string (ByteArray.mk #[]), .int .i64 1, .int .i64 ((i : Int) % (K : Int)), .string (ByteArray.mk #[])] 64)).alloc (.cells #[.int .i64 ((i : Int) + 1), .slice (some ⟨wr.heap.size, 0, none⟩) 2 2] 67)).drew) ⟨wr.heap.size + 1, 0, none⟩ ((i : Int) + 1, .slice (some ⟨wr.heap.size, 0, none⟩) 2 2, [numV ((i : Int) % 3), numV ((i : Int) % (K : Int))]) (by intro u hu; simp [cR] at hu; rcases hu with rfl | rfl <;> rfl) (by rfl) (cells_newRd wr _ ((i : Int) + 1, .slice (some ⟨wr.heap.size, 0, none⟩) 2 2, [numV ((i : Int) % 3), numV ((i : Int) % (K : Int))])) (by have := HRL.out; omega) (by have := HSO.out; simp; omega) ?_; intro v8 w8 hown8' hg8 hv8; obtain ⟨o8, cap8, rfl, -⟩ := LEN8.out _ _ hown8'; obtain ⟨u0, u1, u2, uf⟩ := UU.out _ hg8))
      all_goals
        have YM := hid (show ((((i : Int) + 1, Value.slice (some ⟨wr.heap.size, 0, none⟩) 2 2, [numV ((i : Int) % 3), numV ((i : Int) % (K : Int))]) : Row3).1, (((i : Int) + 1, Value.slice (some ⟨wr.heap.size, 0, none⟩) 2 2, [numV ((i : Int) % 3), numV ((i : Int) % (K : Int))]) : Row3).2.2) = rowL K i from rfl)
        obtain ⟨y, hy⟩ : ∃ y : Row3, ((i : Int) + 1, Value.slice (some ⟨wr.heap.size, 0, none⟩) 2 2, [numV ((i : Int) % 3), numV ((i : Int) % (K : Int))]) = y := ⟨_, rfl⟩
        have HY := hid (show y.2.1 = .slice (some ⟨wr.heap.size, 0, none⟩) 2 2 by rw [← hy])
        have hyv : y.2.2 = [numV ((i : Int) % 3), numV ((i : Int) % (K : Int))] := by rw [← hy]
        have hown8 : w8.ownsRow (tb + 1) 67 2 (.slice o8 (rs ++ [(((i : Int) + 1, Value.slice (some ⟨wr.heap.size, 0, none⟩) 2 2, [numV ((i : Int) % 3), numV ((i : Int) % (K : Int))]) : Row3)]).length cap8) (rs ++ [y]).length ((rs ++ [y]).flatMap cR) := by rw [← hy]; simpa using hown8'
        rw [hy] at YM hown8 hv8
        try rw [hy]
        have RV := hid (show RdV ((wr.alloc (.cells #[.int .i64 1, .int .i64 ((i : Int) % 3), .string (ByteArray.mk #[]), .int .i64 1, .int .i64 ((i : Int) % (K : Int)), .string (ByteArray.mk #[])] 64)).alloc (.cells #[.int .i64 ((i : Int) + 1), .slice (some ⟨wr.heap.size, 0, none⟩) 2 2] 67)).drew y.2.1 y.2.2 by rw [HY.out, hyv]; exact RdC.below (RdC.below (RdC.lit cV_length wr [numV ((i : Int) % 3), numV ((i : Int) % (K : Int))] 64 (by simp) (by decide)) (below_alloc _ _)) (below_drewN _ _ 1))
        obtain ⟨wa, hwa⟩ : ∃ wa : World, ((wr.alloc (.cells #[.int .i64 1, .int .i64 ((i : Int) % 3), .string (ByteArray.mk #[]), .int .i64 1, .int .i64 ((i : Int) % (K : Int)), .string (ByteArray.mk #[])] 64)).alloc (.cells #[.int .i64 ((i : Int) + 1), .slice (some ⟨wr.heap.size, 0, none⟩) 2 2] 67)).drew = wa := ⟨_, rfl⟩
        have hba : Below wr.heap.size wr wa := by rw [← hwa]; exact (((Below.refl _ _).alloc (Nat.le_refl _) _).alloc (by simp) _).drew
        rw [hwa] at RV hg8 hv8
        have hsa : wa.heap.size = wr.heap.size + 1 + 1 := by rw [← hwa]; simp
        have la : tb < wa.heap.size := by have := HSO.out; omega
        have OW9 := hid (ownsRow_setCell_other hown8 (a := ⟨tb, 2, none⟩) (fun e => Nat.not_succ_le_self _ (hown8.lt _ e).1) (.slice o8 (rs ++ [y]).length cap8))
        have hb8 : Below tb w2 w8 := (HNX.out.trans (hba.mono (Nat.le_of_lt HSO.out))).grown hg8 (Nat.le_of_lt la) (fun j hj => Nat.le_trans (Nat.le_succ _) (HO.out.lt j hj).1)
        have B9 := hid (hb8.setCell (p := ⟨tb, 2, none⟩) (Nat.le_refl _) (.slice o8 (rs ++ [y]).length cap8))
        have HM9 := hid (show (rs ++ [y]).map (fun r => (r.1, r.2.2)) = (largeL K N).take (i + 1) by rw [List.map_append, HM.out, List.take_add_one, largeL_at hlt, List.map_singleton, YM.out]; rfl)
        have HR9 := hid (show ∀ r' ∈ rs ++ [y], RdV (w8.setCell ⟨tb, 2, none⟩ (.slice o8 (rs ++ [y]).length cap8)) r'.2.1 r'.2.2 ∧ FarV r'.2.1 (Value.slice o8 (rs ++ [y]).length cap8).ownBlock ∧ FarV r'.2.1 (some tb) by
          intro r' hr'
          rcases List.mem_append.1 hr' with h | h
          · obtain ⟨p1, p2, p3⟩ := HRS.out r' h
            have p4 := RdC.grown (RdC.below p1 hba) hg8 p2
            refine ⟨RdC.setFar p4 p3, ?_, p3⟩
            rcases hv8 with e | e
            · rw [e]; exact p2
            · rw [e]; intro a len cap e1 hl e2
              obtain ⟨ao', cap', e3, -, -, h3⟩ := p1
              rw [e3] at e1; cases e1
              obtain ⟨b, off, e4, hlt, -⟩ := h3 hl
              cases e4; simp at e2; omega
          · obtain rfl := List.mem_singleton.1 h
            have pt : FarV r'.2.1 tv.ownBlock := fun a len cap e1 _ e2 => by rw [HY.out] at e1; cases e1; have := (HO.out.lt _ e2).2; simp at this
            have pb : FarV r'.2.1 (some tb) := fun a len cap e1 _ e2 => by rw [HY.out] at e1; cases e1; simp at e2; have := HSO.out; omega
            have p4 := RdC.grown RV.out hg8 pt
            refine ⟨RdC.setFar p4 pb, ?_, pb⟩
            rcases hv8 with e | e
            · rw [e]; exact pt
            · rw [e]; intro a len cap e1 _ e2
              rw [HY.out] at e1; cases e1
              simp at e2; omega)
        have g0 : (w8.setCell ⟨tb, 2, none⟩ (.slice o8 (rs ++ [y]).length cap8)).cell? ⟨tb, 0, none⟩ = _ := (World.cell?_setCell_other _ _ _ _ (by simp)).trans u0
        have g1 : (w8.setCell ⟨tb, 2, none⟩ (.slice o8 (rs ++ [y]).length cap8)).cell? ⟨tb, 1, none⟩ = _ := (World.cell?_setCell_other _ _ _ _ (by simp)).trans u1
        have g2 : (w8.setCell ⟨tb, 2, none⟩ (.slice o8 (rs ++ [y]).length cap8)).cell? ⟨tb, 2, none⟩ = some (.slice o8 (rs ++ [y]).length cap8) := World.cell?_setCell_same _ _ _ u2
        have gf : (w8.setCell ⟨tb, 2, none⟩ (.slice o8 (rs ++ [y]).length cap8)).frozen? ⟨tb, 2, none⟩ = false := by simp [uf]
        have GG := hid (And.intro g0 (And.intro g1 (And.intro g2 gf)))
        clear g0 g1 g2 gf hown8 hown8' hg8 hv8 hb8 hy hyv hwa hsa hba la E1 E2 E4 E5 E6 E7 hkm
        try rw [show rs.length + 1 = (rs ++ [y]).length by simp]
        generalize w8.setCell ⟨tb, 2, none⟩ (.slice o8 (rs ++ [y]).length cap8) = w9 at *
        go_wp2_with fail
        go_roundw
        case rel => exact ⟨i + 1, rs ++ [y], _, by omega, by go_num, ⟨GG.out.1, GG.out.2.1, GG.out.2.2.1⟩, GG.out.2.2.2, OW9.out, HR9, HM9, B9⟩
        case measure => simp [intOf]; omega
    · obtain rfl : N = i := by omega
      have HMf := hid (show rs.map (fun r => (r.1, r.2.2)) = largeL K N by rw [HM.out]; exact List.take_of_length_le (by unfold largeL; simp))
      have hrl := HRL.out
      have RT := hid (show RdC cR wr tv rs from RdC.of_owns cR_length hown (by omega))
      obtain ⟨to, tcap, rfl, -⟩ := RdC.of_owns cR_length hown (by omega)
      have TD := hid (show RdT wr (.slice (some ⟨w1.heap.size, 0, none⟩) 2 2) (.slice to rs.length tcap) (exL rs) from ⟨AV.out.belowB (by have := HTB.out; omega) HNX.out, RT.out, fun r hr => (HRS.out r hr).1⟩)
      have BF := hid (show Below w.heap.size w wr from B2.out.trans (HNX.out.mono (by have := B1.out.size; have := HTB.out; omega)))
      have C3 := hid (fun (W : World) (h : Below wr.heap.size wr W) => show W.cell? ⟨tb, 0, none⟩ = some (.string (ByteArray.mk #[114])) ∧ W.cell? ⟨tb, 1, none⟩ = some (.slice (some ⟨w1.heap.size, 0, none⟩) 2 2) ∧ W.cell? ⟨tb, 2, none⟩ = some (.slice to rs.length tcap) from ⟨(h.cell (p := ⟨tb, 0, none⟩) hso).trans t0, (h.cell (p := ⟨tb, 1, none⟩) hso).trans t1, (h.cell (p := ⟨tb, 2, none⟩) hso).trans t2⟩)
      have S1 := hid (fun (W : World) (h : Below wr.heap.size wr W) => asetsR (exL rs) _ _ W (TD.out.below h))
      have S2 := hid (fun (W : World) (h : Below wr.heap.size wr W) => rsetsR (exL rs) _ _ W (TD.out.below h))
      have S3 := hid (fun (W : World) (h : Below wr.heap.size wr W) => aof_any (exL rs) _ _ 1 2 W (TD.out.below h))
      have S4 := hid (fun (W : World) (h : Below wr.heap.size wr W) => amaxR (exL rs) _ _ 0 W (TD.out.below h))
      have S5 := hid (fun (W : World) (h : Below wr.heap.size wr W) => adiffR (exL rs) _ _ 0 W (TD.out.below h))
      have S6 := hid (fun (W : World) (h : Below wr.heap.size wr W) => awitR (exL rs) _ _ (l0S (setsL (exL rs))) W (TD.out.below h))
      have SL := hid (fun (v : Value) (W : World) (h : RdCt W v (setsL (exL rs))) => l0_any (setsL (exL rs)) v W h)
      have SC := hid (fun (v u : Value) (W : World) (h : RdCt W v (setsL (exL rs))) (k : RdCt W u (setsL (exL rs))) => csame_any (setsL (exL rs)) v u W h k)
      have HE := hid (large_tab HMf.out (by omega))
      rw [large_of HMf.out (by omega)] at S3
      rw [large_arity] at S4 S5
      have HP := hid (large_pairs HMf.out (by omega))
      have WF := hid (fun (h : tabE2 (exL rs) = 0) => wit_first h HP.out)
      have WN := hid (fun (h : tabE2 (exL rs) ≠ 0) => wit_none h (l0S (setsL (exL rs))))
      generalize (ofS (exL rs) 1 2).1 = o1 at *
      generalize witE (exL rs) (l0S (setsL (exL rs))) = we at *
      generalize l0S (setsL (exL rs)) = s0 at *
      generalize setsL (exL rs) = ls at *
      unfold enc at S6
      obtain ⟨t00, t01, t02⟩ := C3.out _ (Below.refl _ _)
      have D10 := hid (Below.refl wr.heap.size wr)
      have t100 := t00
      have t101 := t01
      have t102 := t02
      clear t00 t01 t02 t0 t1 t2 hown RT
      by_cases hN : 200 < N
      · rw [if_pos hN] at HE
        have hwe := WN.out (by rw [HE.out]; decide)
        subst hwe
        rw [HE.out] at S1 S2 S3 S4 S5
        clear WN WF
        go_wp2_with fail
        refine (S1.out _ D10.out).mono ?_
        rintro e w11 ⟨v11, rfl, hc11, hb11⟩
        have D11 := hid (D10.out.trans (hb11.mono D10.out.size))
        have RC11 := hid hc11
        clear hc11
        obtain ⟨t110, t111, t112⟩ := C3.out _ D11.out
        clear hb11 t100 t101 t102
        go_wp2_with fail
        refine (S2.out _ D11.out).mono ?_
        rintro e w12 ⟨v12, rfl, hc12, hb12⟩
        have D12 := hid (D11.out.trans (hb12.mono D11.out.size))
        replace RC11 := hid (RC11.out.below hb12)
        have RC12 := hid hc12
        clear hc12
        obtain ⟨t120, t121, t122⟩ := C3.out _ D12.out
        clear hb12 t110 t111 t112
        go_wp2_with fail
        refine (S3.out _ D12.out).mono ?_
        rintro e w13 ⟨rfl, hb13⟩
        have D13 := hid (D12.out.trans (hb13.mono D12.out.size))
        replace RC11 := hid (RC11.out.below hb13)
        replace RC12 := hid (RC12.out.below hb13)
        obtain ⟨t130, t131, t132⟩ := C3.out _ D13.out
        clear hb13 t120 t121 t122
        go_wp2_with fail
        refine (S4.out _ D13.out).mono ?_
        rintro e w14 ⟨v14, rfl, -, hb14⟩
        have D14 := hid (D13.out.trans (hb14.mono D13.out.size))
        replace RC11 := hid (RC11.out.below hb14)
        replace RC12 := hid (RC12.out.below hb14)
        obtain ⟨t140, t141, t142⟩ := C3.out _ D14.out
        clear hb14 t130 t131 t132
        go_wp2_with fail
        refine (S5.out _ D14.out).mono ?_
        rintro e w15 ⟨v15, rfl, -, hb15⟩
        have D15 := hid (D14.out.trans (hb15.mono D14.out.size))
        replace RC11 := hid (RC11.out.below hb15)
        replace RC12 := hid (RC12.out.below hb15)
        obtain ⟨t150, t151, t152⟩ := C3.out _ D15.out
        clear hb15 t140 t141 t142
        have hsz15 := D15.out.size
        have C1 := hid (fun x : After w15 => Calls.after_same x (SL.out v12 x.world (RdC.below RC12.out x.below)))
        have C2 := hid (fun x : After w15 => Calls.after x (S6.out x.world (D15.out.trans (x.below.mono hsz15))))
        unfold witV at C2
        have m0 : ∀ x : After w15, x.world.cell? ⟨tb, 0, none⟩ = some (.string (ByteArray.mk #[114])) := fun x => After.cell t150 x
        have m1 : ∀ x : After w15, x.world.cell? ⟨tb, 1, none⟩ = some (.slice (some ⟨w1.heap.size, 0, none⟩) 2 2) := fun x => After.cell t151 x
        have m2 : ∀ x : After w15, x.world.cell? ⟨tb, 2, none⟩ = some (.slice to rs.length tcap) := fun x => After.cell t152 x
        clear t150 t151 t152
        go_wp2_with fail
        refine wp_region_after (by kernel_rfl) (by kernel_rfl) ?_
        repeat (any_goals (quiet_step (first | (with_reducible exact C1.out _) | exact C2.out _)))
        refine wpQuiet_nil ?_
        intro w16 hb16
        have D16 := hid (D15.out.trans (hb16.mono hsz15))
        replace RC11 := hid (RdC.below RC11.out hb16)
        replace RC12 := hid (RdC.below RC12.out hb16)
        clear hb16 m0 m1 m2 C1 C2
        go_wp2_with fail
        refine (SC.out _ _ _ RC11.out RC12.out).mono ?_
        rintro e w17 ⟨rfl, hb17⟩
        have D17 := hid (D16.out.trans (hb17.mono D16.out.size))
        clear hb17
        go_wp2_with fail
        go_ret
        exact ⟨rfl, BF.out.trans (D17.out.mono BF.out.size)⟩
      · rw [if_neg hN] at HE
        have hwe := WF.out HE.out
        obtain ⟨x, hx⟩ := Option.isSome_iff_exists.1 hwe
        clear hwe
        subst hx
        obtain ⟨x1, x2⟩ := x
        rw [HE.out] at S1 S2 S3 S4 S5
        clear WN WF
        go_wp2_with fail
        refine (S1.out _ D10.out).mono ?_
        rintro e w11 ⟨v11, rfl, hc11, hb11⟩
        have D11 := hid (D10.out.trans (hb11.mono D10.out.size))
        have RC11 := hid hc11
        clear hc11
        obtain ⟨t110, t111, t112⟩ := C3.out _ D11.out
        clear hb11 t100 t101 t102
        go_wp2_with fail
        refine (S2.out _ D11.out).mono ?_
        rintro e w12 ⟨v12, rfl, hc12, hb12⟩
        have D12 := hid (D11.out.trans (hb12.mono D11.out.size))
        replace RC11 := hid (RC11.out.below hb12)
        have RC12 := hid hc12
        clear hc12
        obtain ⟨t120, t121, t122⟩ := C3.out _ D12.out
        clear hb12 t110 t111 t112
        go_wp2_with fail
        refine (S3.out _ D12.out).mono ?_
        rintro e w13 ⟨rfl, hb13⟩
        have D13 := hid (D12.out.trans (hb13.mono D12.out.size))
        replace RC11 := hid (RC11.out.below hb13)
        replace RC12 := hid (RC12.out.below hb13)
        obtain ⟨t130, t131, t132⟩ := C3.out _ D13.out
        clear hb13 t120 t121 t122
        go_wp2_with fail
        refine (S4.out _ D13.out).mono ?_
        rintro e w14 ⟨v14, rfl, -, hb14⟩
        have D14 := hid (D13.out.trans (hb14.mono D13.out.size))
        replace RC11 := hid (RC11.out.below hb14)
        replace RC12 := hid (RC12.out.below hb14)
        obtain ⟨t140, t141, t142⟩ := C3.out _ D14.out
        clear hb14 t130 t131 t132
        go_wp2_with fail
        refine (S5.out _ D14.out).mono ?_
        rintro e w15 ⟨v15, rfl, -, hb15⟩
        have D15 := hid (D14.out.trans (hb15.mono D14.out.size))
        replace RC11 := hid (RC11.out.below hb15)
        replace RC12 := hid (RC12.out.below hb15)
        obtain ⟨t150, t151, t152⟩ := C3.out _ D15.out
        clear hb15 t140 t141 t142
        have hsz15 := D15.out.size
        have C1 := hid (fun x : After w15 => Calls.after_same x (SL.out v12 x.world (RdC.below RC12.out x.below)))
        have C2 := hid (fun x : After w15 => Calls.after x (S6.out x.world (D15.out.trans (x.below.mono hsz15))))
        unfold witV at C2
        have m0 : ∀ x : After w15, x.world.cell? ⟨tb, 0, none⟩ = some (.string (ByteArray.mk #[114])) := fun x => After.cell t150 x
        have m1 : ∀ x : After w15, x.world.cell? ⟨tb, 1, none⟩ = some (.slice (some ⟨w1.heap.size, 0, none⟩) 2 2) := fun x => After.cell t151 x
        have m2 : ∀ x : After w15, x.world.cell? ⟨tb, 2, none⟩ = some (.slice to rs.length tcap) := fun x => After.cell t152 x
        clear t150 t151 t152
        go_wp2_with fail
        refine wp_region_after (by kernel_rfl) (by kernel_rfl) ?_
        repeat (any_goals (quiet_step (first | (with_reducible exact C1.out _) | exact C2.out _)))
        refine wpQuiet_nil ?_
        intro w16 hb16
        have D16 := hid (D15.out.trans (hb16.mono hsz15))
        replace RC11 := hid (RdC.below RC11.out hb16)
        replace RC12 := hid (RdC.below RC12.out hb16)
        clear hb16 m0 m1 m2 C1 C2
        go_wp2_with fail
        refine (SC.out _ _ _ RC11.out RC12.out).mono ?_
        rintro e w17 ⟨rfl, hb17⟩
        have D17 := hid (D16.out.trans (hb17.mono D16.out.size))
        clear hb17
        go_wp2_with fail
        go_ret
        exact ⟨rfl, BF.out.trans (D17.out.mono BF.out.size)⟩

end Go.Proofs.Ytkehelplmipenaa
