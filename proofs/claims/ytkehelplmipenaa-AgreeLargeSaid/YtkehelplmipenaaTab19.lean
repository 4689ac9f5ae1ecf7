/- The walks of Differences, of agree and of the reference. -/
import Derived.Test.YtkehelplmipenaaTab18
import Derived.StillTailTactics
namespace Go.Proofs.Ytkehelplmipenaa
open Go.RowKit

theorem shl_fullA {m : Nat} (h : m ≤ 16) : 1#32 <<< m - 1#32 = fullN m := by
  have : m = 0 ∨ m = 1 ∨ m = 2 ∨ m = 3 ∨ m = 4 ∨ m = 5 ∨ m = 6 ∨ m = 7 ∨ m = 8 ∨ m = 9 ∨ m = 10 ∨ m = 11 ∨ m = 12 ∨ m = 13 ∨ m = 14 ∨ m = 15 ∨ m = 16 := by omega
  rcases this with rfl | rfl | rfl | rfl | rfl | rfl | rfl | rfl | rfl | rfl | rfl | rfl | rfl | rfl | rfl | rfl | rfl <;> decide +kernel
theorem mapTo_next {α : Type} (f : α → α) {l : List α} {i : Nat} {x : α} (h : l[i]? = some x) : ((l.take i).map f ++ l.drop i).set i (f x) = (l.take (i + 1)).map f ++ l.drop (i + 1) := by
  have hi := (List.getElem?_eq_some_iff.1 h).1
  have hl : ((l.take i).map f).length = i := by rw [List.length_map, List.length_take]; omega
  rw [take_next h, List.map_append, drop_at h, List.set_append_right _ _ (by omega), hl, Nat.sub_self]
  simp
theorem mapTo_at {α : Type} (f : α → α) {l : List α} {i : Nat} {x : α} (h : l[i]? = some x) : ((l.take i).map f ++ l.drop i)[i]? = some x := by
  have hi := (List.getElem?_eq_some_iff.1 h).1
  have hl : ((l.take i).map f).length = i := by rw [List.length_map, List.length_take]; omega
  rw [List.getElem?_append_right (by omega), hl, Nat.sub_self, drop_at h]; rfl
theorem mapTo_length {α : Type} (f : α → α) (l : List α) (i : Nat) : ((l.take i).map f ++ l.drop i).length = l.length := by
  rw [List.length_append, List.length_map, List.length_take, List.length_drop]; omega
theorem diff_congr {G ks : List S} {n a : Nat} (h : ∀ s, s ∈ ks ↔ s ∈ withoutS G a) : redS (ks.map fun s => (fullN n &&& ~~~ bit a) &&& ~~~ s) = keepS downR (diffL n a G) := by
  rw [redS_keep]
  refine keepS_congr downR fun s => ?_
  unfold diffL
  rw [List.mem_map, List.mem_map]
  have e : ∀ x : S, (fullN n &&& ~~~ bit a) &&& ~~~ x = fullN n &&& ~~~ x &&& ~~~ bit a := fun x => by
    rw [BitVec.and_assoc, BitVec.and_assoc, BitVec.and_comm (~~~ bit a)]
  constructor
  · rintro ⟨x, hx, rfl⟩; exact ⟨x, (h x).1 hx, (e x).symm⟩
  · rintro ⟨x, hx, rfl⟩; exact ⟨x, (h x).2 hx, e x⟩

set_option maxHeartbeats 1600000 in
set_option maxRecDepth 100000 in
theorem adiff_ok (t : T3) (av rv : Value) (a : Nat) (w : World) (ht : RdT w av rv t) (hk : tabE2 t = 0) (ha : a < t.2.1.length) :
    Calls Try.prog 18 #[.agg #[.string t.1, av, rv], .int .i64 (a : Int)] w fun e w' => ∃ v', e = .returned (.tuple #[v', .int .i64 0]) ∧ w'.ownsRow w.heap.size 33 1 v' (keepS downR (diffL t.2.1.length a (pairsS t.2.2))).length ((keepS downR (diffL t.2.1.length a (pairsS t.2.2))).map enc) ∧ Below w.heap.size w w' := by
  have hb0 := below_alloc w (.cells #[.string t.1, av, rv] 25)
  have C3 := hid (fun W h => cells3 (w := w) (a := .string t.1) (b := av) (c := rv) (t := 25) W h)
  have T0 := hid (ht.below hb0)
  obtain ⟨w0, hw0⟩ : ∃ w0 : World, w.alloc (.cells #[.string t.1, av, rv] 25) = w0 := ⟨_, rfl⟩
  rw [hw0] at hb0 C3 T0
  have B0 := hid hb0
  have W0 := hid hw0
  have hsz0 := hb0.size
  clear hb0 hw0
  have h16 := (tabE2_ok hk).1
  have CW := hid (without_ok t av rv a _ T0.out hk ha)
  have RE := hid (fun (xs : List S) (u : Value) (W : World) (h : RdE enc W u xs) (hh : xs.length < 17592186044416) => reduce_any xs u W h hh)
  obtain ⟨nm, ats, rs⟩ := t
  replace ha : a < ats.length := ha
  replace h16 : ats.length ≤ 16 := h16
  obtain ⟨ao, acap, rfl, -⟩ := RdE.split ht.1
  have DC := hid (fun (ks : List S) (h : ∀ s, s ∈ ks ↔ s ∈ withoutS (pairsS rs) a) => diff_congr (n := ats.length) h)
  show Calls _ _ _ _ fun e w' => ∃ v', e = .returned (.tuple #[v', .int .i64 0]) ∧ w'.ownsRow w.heap.size 33 1 v' (keepS downR (diffL ats.length a (pairsS rs))).length ((keepS downR (diffL ats.length a (pairsS rs))).map enc) ∧ Below w.heap.size w w'
  obtain ⟨G, hG⟩ : ∃ G, keepS downR (diffL ats.length a (pairsS rs)) = G := ⟨_, rfl⟩
  rw [hG] at DC ⊢
  obtain ⟨c0, c1, c2⟩ := C3.out _ (Below.refl _ _)
  have a0 : (0 : Int) ≤ (a : Int) := by omega
  have SH := hid (shl_fullA h16)
  clear hG hk ht
  go_enter Try.func18, Try.ntmps18
  go_wp2_with fail
  rw [W0.out]
  go_wp2_with fail
  refine CW.out.mono ?_
  rintro e w1 ⟨v1, ks, rfl, hown, hmem, hkl, hb1⟩
  have DK := hid (DC.out ks hmem)
  have B1 := hid hb1
  have hs1 := hb1.size
  obtain ⟨d0, d1, d2⟩ := C3.out _ hb1
  have HO := hid hown
  obtain ⟨lo, lcap, rfl, -⟩ := (RdE.of_owns hown (by omega)).split
  clear hown hmem hb1 c0 c1 c2
  go_wp2_with fail
  go_quiet (fail)
  obtain ⟨f, hf⟩ : ∃ f : S → S, (fun s => (fullN ats.length &&& ~~~ bit a) &&& ~~~ s) = f := ⟨_, rfl⟩
  have FF := hid (show ∀ s : S, f s = (1#32 <<< ats.length - 1#32 &&& ~~~ (1#32 <<< a)) &&& ~~~ s from fun s => by rw [← hf, SH.out]; rfl)
  rw [hf] at DK
  obtain ⟨oth, hoth⟩ : ∃ oth : S, (1#32 <<< ats.length - 1#32 &&& ~~~ (1#32 <<< a)) = oth := ⟨_, rfl⟩
  rw [hoth] at FF ⊢
  clear hf hoth SH
  go_wp2_with fail
  go_loopw [30] (fun i wr => ∃ k : Nat, k ≤ ks.length ∧ i = .int .i64 k ∧ wr.ownsRow w0.heap.size 33 1 (.slice lo ks.length lcap) ks.length (((ks.take k).map f ++ ks.drop k).map enc) ∧ Below w0.heap.size w0 wr) (fun i _ => ks.length - (intOf i).toNat)
  case atStart => exact ⟨0, Nat.zero_le _, rfl, by simpa using own_below HO.out (below_drewN _ _ _), below_drewN' B1.out _⟩
  case round =>
    obtain ⟨k, hk, rfl, hown, hnx⟩ := hrel
    have hsz := hnx.size
    have k0 : (0 : Int) ≤ (k : Int) := by omega
    by_cases hlt : k < ks.length
    · obtain ⟨x, hx⟩ := get_some hlt
      obtain ⟨gb, gcap, hform⟩ : ∃ gb gcap, Value.slice lo ks.length lcap = .slice (some ⟨gb, 0, none⟩) ks.length gcap := by
        rcases hown.2 with ⟨h1, h2⟩ | ⟨g', cap', cur, hv, _⟩
        · omega
        · exact ⟨g', cap', hv⟩
      simp only [Value.slice.injEq] at hform
      obtain ⟨rfl, -, rfl⟩ := hform
      have hgb := hown.lt gb rfl
      have hcell : wr.cell? ⟨gb, k, none⟩ = some (.int .u32 (iv x)) := by
        rw [hown.cellAt k (by omega), List.getElem?_map, mapTo_at f hx]; rfl
      have hfz : wr.frozen? ⟨gb, k, none⟩ = false := hown.frozenAt _
      have ST := hown.stored k (.int .u32 (iv (f x)))
      have S1 := hid (show (wr.setCell ⟨gb, k, none⟩ (.int .u32 (iv (f x)))).ownsRow w0.heap.size 33 1 (.slice (some ⟨gb, 0, none⟩) ks.length lcap) ks.length (((ks.take (k + 1)).map f ++ ks.drop (k + 1)).map enc) by
        rw [← mapTo_next f hx, List.map_set]; exact ST.1)
      have S2 := hid (hnx.grown ST.2 hnx.size (fun j hj => by cases hj; exact hgb.1))
      rw [FF.out x] at S1 S2
      clear ST hown hnx hx
      go_wp2_with fail
      go_roundw
      case rel => exact ⟨k + 1, by omega, by go_num, S1.out, S2.out⟩
      case measure => simp [intOf]; omega
    · have hkl2 : k = ks.length := by omega
      rw [List.take_of_length_le (by omega), List.drop_eq_nil_of_le (by omega), List.append_nil] at hown
      have R := hid (RdE.of_owns (f := enc) (xs := ks.map f) (by rw [List.length_map]; exact hown) (by rw [List.length_map]; omega))
      have HN := hid (B0.out.trans (hnx.mono hsz0))
      have hs2 := HN.out.size
      have RD := hid (RE.out (ks.map f) _ wr R.out (by rw [List.length_map]; omega))
      clear hown hnx hkl2
      go_wp2_with fail
      refine RD.out.mono ?_
      rintro e w4 ⟨v4, rfl, hown4, hb4⟩
      rw [DK.out] at hown4
      have O4 := hid (own_mono hown4 hs2)
      have B4 := hid (HN.out.trans (hb4.mono hs2))
      clear hown4 hb4
      go_wp2_with fail
      go_ret2
      exact ⟨_, rfl, O4.out, B4.out⟩

set_option maxHeartbeats 1600000 in
set_option maxRecDepth 100000 in
theorem rdiff_ok (t : T3) (av rv : Value) (a : Nat) (w : World) (ht : RdT w av rv t) (hk : tabE2 t = 0) (ha : a < t.2.1.length) :
    Calls Try.prog 19 #[.agg #[.string t.1, av, rv], .int .i64 (a : Int)] w fun e w' => ∃ v', e = .returned (.tuple #[v', .int .i64 0]) ∧ w'.ownsRow w.heap.size 33 1 v' (keepS downR (diffL t.2.1.length a (pairsS t.2.2))).length ((keepS downR (diffL t.2.1.length a (pairsS t.2.2))).map enc) ∧ Below w.heap.size w w' := by
  have hb0 := below_alloc w (.cells #[.string t.1, av, rv] 25)
  have C3 := hid (fun W h => cells3 (w := w) (a := .string t.1) (b := av) (c := rv) (t := 25) W h)
  have T0 := hid (ht.below hb0)
  obtain ⟨w0, hw0⟩ : ∃ w0 : World, w.alloc (.cells #[.string t.1, av, rv] 25) = w0 := ⟨_, rfl⟩
  rw [hw0] at hb0 C3 T0
  have B0 := hid hb0
  have W0 := hid hw0
  have hsz0 := hb0.size
  clear hb0 hw0
  have h16 := (tabE2_ok hk).1
  have CH := hid (refError_any t av rv _ T0.out)
  have CW := hid (fun (W : World) (h : Below w0.heap.size w0 W) => rwithout_any t av rv a W (T0.out.below h) hk (by omega))
  have RE := hid (fun (xs : List S) (u : Value) (W : World) (h : RdE enc W u xs) (hh : xs.length < 17592186044416) => ref2Minimal_any xs u W h hh)
  have hG4 : (withoutS (pairsS t.2.2) a).length ≤ 40000 := Nat.le_trans (withoutS_length _ _) (Nat.le_trans (pairsS_length _) (Nat.mul_le_mul (tabE2_ok hk).2.1 (tabE2_ok hk).2.1))
  have KK := hid hk
  obtain ⟨nm, ats, rs⟩ := t
  replace ha : a < ats.length := ha
  replace h16 : ats.length ≤ 16 := h16
  obtain ⟨ao, acap, rfl, -⟩ := RdE.split ht.1
  have FU := hid (full_any (ats.length : Int))
  rw [show min (ats.length : Int).toNat 32 = ats.length by omega] at FU
  simp only [enc_eq] at FU
  have DL := hid (show diffL ats.length a (pairsS rs) = (withoutS (pairsS rs) a).map (fun s => fullN ats.length &&& ~~~ s &&& ~~~ bit a) from rfl)
  show Calls _ _ _ _ fun e w' => ∃ v', e = .returned (.tuple #[v', .int .i64 0]) ∧ w'.ownsRow w.heap.size 33 1 v' (keepS downR (diffL ats.length a (pairsS rs))).length ((keepS downR (diffL ats.length a (pairsS rs))).map enc) ∧ Below w.heap.size w w'
  obtain ⟨ks, hks⟩ : ∃ ks, withoutS (pairsS (nm, ats, rs).2.2) a = ks := ⟨_, rfl⟩
  rw [hks] at CW hG4 DL
  rw [DL.out]
  obtain ⟨c0, c1, c2⟩ := C3.out _ (Below.refl _ _)
  have a0 : (0 : Int) ≤ (a : Int) := by omega
  have an0 : ¬ (a : Int) < 0 := by omega
  have ha3 : decide ((a : Int) ≥ (ats.length : Int)) = false := by simp; omega
  have ha32 : a < 32 := by omega
  obtain ⟨f, hf⟩ : ∃ f : S → S, (fun s => fullN ats.length &&& ~~~ s &&& ~~~ bit a) = f := ⟨_, rfl⟩
  rw [hf]
  have FF := hid (show ∀ s : S, f s = fullN ats.length &&& ~~~ s &&& ~~~ (1#32 <<< a) from fun s => by rw [← hf]; rfl)
  generalize fullN ats.length = fu at *
  clear hks hk h16 DL hf ht
  go_enter Try.func19, Try.ntmps19
  go_wp2_with fail
  rw [W0.out]
  go_wp2_with fail
  refine CH.out.mono ?_
  rw [KK.out]
  rintro e w1 ⟨rfl, hb1⟩
  have B1 := hid hb1
  obtain ⟨d0, d1, d2⟩ := C3.out _ hb1
  clear hb1 c0 c1 c2
  go_wp2_with fail
  refine (CW.out _ B1.out).mono ?_
  rintro e w2 ⟨v2, rfl, hown, hb2⟩
  have B2 := hid (B1.out.trans (hb2.mono B1.out.size))
  have HO := hid (own_mono hown B1.out.size)
  obtain ⟨lo, lcap, rfl, -⟩ := (RdE.of_owns hown (by omega)).split
  clear hown hb2 d0 d1 d2
  go_wp2_with fail
  go_loopw [8] (fun i wr => ∃ k : Nat, k ≤ ks.length ∧ i = .int .i64 k ∧ wr.ownsRow w0.heap.size 33 1 (.slice lo ks.length lcap) ks.length (((ks.take k).map f ++ ks.drop k).map enc) ∧ Below w0.heap.size w0 wr) (fun i _ => ks.length - (intOf i).toNat)
  case atStart => exact ⟨0, Nat.zero_le _, rfl, by simpa using HO.out, B2.out⟩
  case round =>
    obtain ⟨k, hk, rfl, hown, hnx⟩ := hrel
    have hsz := hnx.size
    obtain ⟨c0, c1, c2⟩ := C3.out _ hnx
    have k0 : (0 : Int) ≤ (k : Int) := by omega
    by_cases hlt : k < ks.length
    · obtain ⟨x, hx⟩ := get_some hlt
      obtain ⟨gb, gcap, hform⟩ : ∃ gb gcap, Value.slice lo ks.length lcap = .slice (some ⟨gb, 0, none⟩) ks.length gcap := by
        rcases hown.2 with ⟨h1, h2⟩ | ⟨g', cap', cur, hv, _⟩
        · omega
        · exact ⟨g', cap', hv⟩
      simp only [Value.slice.injEq] at hform
      obtain ⟨rfl, -, rfl⟩ := hform
      have hgb := hown.lt gb rfl
      have hcell : wr.cell? ⟨gb, k, none⟩ = some (.int .u32 (iv x)) := by
        rw [hown.cellAt k (by omega), List.getElem?_map, mapTo_at f hx]; rfl
      have hfz : wr.frozen? ⟨gb, k, none⟩ = false := hown.frozenAt _
      have ST := hown.stored k (.int .u32 (iv (f x)))
      have S1 := hid (show (wr.setCell ⟨gb, k, none⟩ (.int .u32 (iv (f x)))).ownsRow w0.heap.size 33 1 (.slice (some ⟨gb, 0, none⟩) ks.length lcap) ks.length (((ks.take (k + 1)).map f ++ ks.drop (k + 1)).map enc) by
        rw [← mapTo_next f hx, List.map_set]; exact ST.1)
      have S2 := hid (hnx.grown ST.2 hnx.size (fun j hj => by cases hj; exact hgb.1))
      rw [FF.out x] at S1 S2
      clear ST hown hnx hx
      go_wp2_with fail
      refine wp_region_still_tail 15 (by kernel_rfl) (by kernel_rfl) ?_
      simp only [List.take_succ_cons, List.take_zero, List.drop_succ_cons, List.drop_zero]
      repeat still_step
      still_call ((FU.out _).mono (fun _ _ h => ⟨h.1, h.2.symm⟩))
      repeat still_step
      refine wpStill_nil ?_
      go_wp2_with fail
      go_roundw
      case rel => exact ⟨k + 1, by omega, by go_num, S1.out.drew, S2.out.drew⟩
      case measure => simp [intOf]; omega
    · have hkl2 : k = ks.length := by omega
      rw [List.take_of_length_le (by omega), List.drop_eq_nil_of_le (by omega), List.append_nil] at hown
      have R := hid (RdE.of_owns (f := enc) (xs := ks.map f) (by rw [List.length_map]; exact hown) (by rw [List.length_map]; omega))
      have HN := hid (B0.out.trans (hnx.mono hsz0))
      have hs2 := HN.out.size
      have RD := hid (RE.out (ks.map f) _ wr R.out (by rw [List.length_map]; omega))
      clear hown hnx hkl2
      go_wp2_with fail
      refine RD.out.mono ?_
      rintro e w4 ⟨v4, rfl, hown4, hb4⟩
      have O4 := hid (own_mono hown4 hs2)
      have B4 := hid (HN.out.trans (hb4.mono hs2))
      clear hown4 hb4
      go_wp2_with fail
      go_ret2
      exact ⟨_, rfl, O4.out, B4.out⟩

end Go.Proofs.Ytkehelplmipenaa
