/- The walk of agree.Sets: the different agree sets with their numbers of pairs. -/
import Derived.Test.YtkehelplmipenaaGTabA
import Derived.Test.YtkehelplmipenaaTab13
import Derived.Test.YtkehelplmipenaaCompact
namespace Go.Proofs.Ytkehelplmipenaa
open Go.RowKit

/-- The cells of a set with a number. -/
abbrev C2 := S × Int
def cC (x : C2) : List Value := [enc x.1, .int .i64 x.2]
theorem cC_length (x : C2) : (cC x).length = 2 := rfl
theorem cC_one (x : C2) : ∀ u ∈ cC x, u.oneCell' = true := by
  intro u hu; simp [cC] at hu; rcases hu with rfl | rfl <;> rfl
theorem cells_newC (w : World) (x : C2) {t : TypeId} : ∀ j u, (cC x)[j]? = some u → (w.alloc (.cells #[.int .u32 (iv x.1), .int .i64 x.2] t)).cell? (Addr.add ⟨w.heap.size, 0, none⟩ j) = some u := by
  intro j u hj
  have hj2 : j < 2 := (List.getElem?_eq_some_iff.1 hj).1
  rcases (show j = 0 ∨ j = 1 by omega) with rfl | rfl
  · simp [cC, enc] at hj; subst hj; simp [Addr.add]
  · simp [cC, enc] at hj; subst hj; simp [Addr.add]
abbrev RdCt (w : World) (v : Value) (xs : List C2) : Prop := RdC cC w v xs
theorem infoCt : (Try.prog.info? 35).map (fun i => (i.zero, i.size, i.bytes)) = some (some (.agg #[.int .u32 0, .int .i64 0]), 2, 16) := by kernel_rfl
theorem undCts : Try.prog.underlying 28 = some (.slice 35) := by kernel_rfl

theorem own_grown2 {w w' : World} {B b : Nat} {e : TypeId} {size n : Nat} {v : Value} {xs : List Value} (h : w.ownsRow B e size v n xs) (hg : w.grownBy w' (some b)) (hb : b < B) : w'.ownsRow B e size v n xs := by
  refine ⟨h.1, ?_⟩
  rcases h.2 with h' | ⟨g, cap, cur, hv, hgB, hc, rest⟩
  · exact .inl h'
  · exact .inr ⟨g, cap, cur, hv, hgB, (hg.block g (Array.getElem?_eq_some_iff.1 hc).1 (by intro e; cases e; omega)).trans hc, rest⟩

set_option maxRecDepth 100000 in
theorem asets_err (t : T3) (av rv : Value) (w : World) (ht : RdT w av rv t) (hk : tabE2 t ≠ 0) :
    Calls Try.prog 13 #[.agg #[.string t.1, av, rv]] w fun e w' => e = .returned (.tuple #[.slice none 0 0, .int .i64 (tabE2 t)]) ∧ Below w.heap.size w w' := by
  have hb0 := below_alloc w (.cells #[.string t.1, av, rv] 25)
  have C3 := cells3 (w := w) (a := .string t.1) (b := av) (c := rv) (t := 25) _ (Below.refl _ _)
  have CH := hid (check_any t av rv _ (ht.below hb0))
  obtain ⟨w0, hw0⟩ : ∃ w0 : World, w.alloc (.cells #[.string t.1, av, rv] 25) = w0 := ⟨_, rfl⟩
  rw [hw0] at hb0 CH C3
  obtain ⟨c0, c1, c2⟩ := C3
  have B0 := hid hb0
  have W0 := hid hw0
  have hne : ((tabE2 t) != (0 : Int)) = true := by simpa using hk
  clear hb0 hw0 hk ht
  generalize tabE2 t = n at *
  obtain ⟨nm, ats, rs⟩ := t
  go_enter Try.func13, Try.ntmps13
  go_wp2_with fail
  rw [W0.out]
  go_wp2_with fail
  refine CH.out.mono ?_
  rintro e w1 ⟨rfl, hb1⟩
  have B1 := hid (B0.out.trans (hb1.mono B0.out.size))
  clear hb1
  go_wp2_with fail
  go_ret2
  exact ⟨rfl, B1.out⟩

set_option maxHeartbeats 1600000 in
set_option maxRecDepth 100000 in
theorem asets_ok (t : T3) (av rv : Value) (w : World) (ht : RdT w av rv t) (hk : tabE2 t = 0) :
    Calls Try.prog 13 #[.agg #[.string t.1, av, rv]] w fun e w' => ∃ v', e = .returned (.tuple #[v', .int .i64 0]) ∧ w'.ownsRow w.heap.size 35 2 v' (cntL (pairsS t.2.2)).length ((cntL (pairsS t.2.2)).flatMap cC) ∧ Below w.heap.size w w' := by
  have hb0 := below_alloc w (.cells #[.string t.1, av, rv] 25)
  have C3 := hid (fun W h => cells3 (w := w) (a := .string t.1) (b := av) (c := rv) (t := 25) W h)
  have T0 := hid (ht.below hb0)
  obtain ⟨w0, hw0⟩ : ∃ w0 : World, w.alloc (.cells #[.string t.1, av, rv] 25) = w0 := ⟨_, rfl⟩
  rw [hw0] at hb0 C3 T0
  have B0 := hid hb0
  have W0 := hid hw0
  have hsz0 := hb0.size
  have CH := hid (fun (W : World) (h : Below w0.heap.size w0 W) => check_any t av rv W (T0.out.below h))
  have CO := hid (fun (W : World) (h : Below w0.heap.size w0 W) => counts_any t av rv W (T0.out.below h) hk)
  have AO := hid (fun (xs : List S) (u : Value) (W : World) (h : RdE enc W u xs) (hh : xs.length < 17592186044416) => aorder_any xs u W h hh)
  have KK := hid hk
  clear hb0 hw0 hk ht
  obtain ⟨nm, ats, rs⟩ := t
  have PL : ∃ G, pairsS (nm, ats, rs).2.2 = G := ⟨_, rfl⟩
  obtain ⟨G, hG⟩ := PL
  rw [hG] at CO ⊢
  clear hG
  obtain ⟨c0, c1, c2⟩ := C3.out _ (Below.refl _ _)
  go_enter Try.func13, Try.ntmps13
  go_wp2_with fail
  rw [W0.out]
  go_wp2_with fail
  refine (CH.out _ (Below.refl _ _)).mono ?_
  rw [KK.out]
  rintro e w1 ⟨rfl, hb1⟩
  have B1 := hid hb1
  obtain ⟨d0, d1, d2⟩ := C3.out _ hb1
  clear hb1 c0 c1 c2
  go_wp2_with fail
  refine (CO.out _ B1.out).mono ?_
  rintro e w2 ⟨b, ps, rfl, hown, hn, hperm, hb, hb2⟩
  have B2 := hid (B0.out.trans (B1.out.trans (hb2.mono B1.out.size) |>.mono hsz0))
  have hs2 := B2.out.size
  have HC := hid (show ∀ s, cntF ps s = cntF G s from count_perm hperm)
  have HM := hid (show ∀ s, memB ps s = decide (s ∈ G) from fun s => by rw [has_perm hperm]; rfl)
  have HB := hid (show ∀ s, cntF ps s ≤ 40000 from fun s => Nat.le_trans List.count_le_length hn)
  have HO := hid hown
  have hbl := hown.lt
  clear hown hb2 hperm d0 d1 d2
  generalize cntF ps = g at *
  generalize memB ps = pp at *
  generalize ps.length = n at *
  go_wp2_with (at_range; refine wpList_krange (E := cntElems Try.prog 2 undI64) (z := 0) (k := 33) rfl _ 78 rfl undU32 undMapC rfl HO.out ?_; intro w3 cnt hrg hcn hb3 hs3)
  go_frame
  have ST := hid (And.intro hrg hb3)
  clear hrg hb3
  go_loopw [6] (fun u wr => ∃ (left : S → Bool) (cnt : Nat) (ks : List S), RngC wr b w2.heap.size n g pp left cnt ∧ wr.ownsRow (w2.heap.size + 1) 33 1 u ks.length (ks.map enc) ∧ Hid (Coll pp left ks) ∧ ks.length + cnt ≤ n ∧ Below w2.heap.size w2 wr ∧ w2.heap.size + 1 ≤ wr.heap.size) (fun _ wr => wr.rangeLeft b w2.heap.size)
  case atStart => exact ⟨pp, cnt, [], ST.out.1, World.ownsRow_nil _ _ _ _, hid (Coll.start pp), by simpa using hcn, ST.out.2, by omega⟩
  case round =>
    obtain ⟨left, cnt1, ks, hrg, hl, CL, hcn1, hnx, hsz⟩ := hrel
    have hLE := hid hrg.left_eq
    go_wp2_with (at_next; refine wpList_knext (E := cntElems Try.prog 2 undI64) (z := 0) (k := 33) rfl _ rfl undU32 rfl hrg ?_ ?_)
    · intro hc0 hl0
      have hmem : ∀ s, s ∈ ks ↔ s ∈ G := fun s => by rw [CL.out.done hl0, HM.out]; simp
      have R := hid (RdE.of_owns hl (by omega))
      have OS := hid (fun (ys : List S) (h : IsOrd ys (· ∈ ks)) => ordS_of h hmem)
      have HW := hid (hrg.owns)
      have HN := hid hnx
      clear hl0 hmem hrg hl hnx hLE
      go_wp2_with fail
      refine (AO.out ks _ wr R.out (by omega)).mono ?_
      rintro e w4 ⟨v4, ys, rfl, ho4, hord, hyl, hb4⟩
      have hys := OS.out ys hord
      have M4 := hid (HW.out.below hb4)
      have B4 := hid (HN.out.trans (hb4.mono HN.out.size))
      have R4 := hid (RdE.of_owns ho4 (by omega))
      obtain ⟨yo, ycap, rfl, -, hyc⟩ := R4.out.split
      have YC := hid hyc
      have hs4 := B4.out.size
      have MG := hid (show cntL G = ys.map (fun s => (s, (g s : Int))) by
        unfold cntL; rw [← hys]
        exact List.map_congr_left fun s _ => by rw [HC.out]; rfl)
      have GB := hid (show ∀ s, capN (g s) = g s from fun s => capN_eq (by have := HB.out s; omega))
      clear ho4 hord hb4 hyc hys
      go_wp2_with fail
      go_loopw [8, 31] (fun u i wr => ∃ j : Nat, j ≤ ys.length ∧ i = .int .i64 j ∧ wr.ownsRow w4.heap.size 35 2 u ((ys.take j).map fun s => (s, (g s : Int))).length (((ys.take j).map fun s => (s, (g s : Int))).flatMap cC) ∧ Below w4.heap.size w4 wr) (fun _ i _ => ys.length - (intOf i).toNat)
      case atStart => exact ⟨0, Nat.zero_le _, rfl, World.ownsRow_nil _ _ _ _, Below.refl _ _⟩
      case round =>
        obtain ⟨j, hj, rfl, hown, hnx⟩ := hrel
        have hsz' := hnx.size
        have hll : ((ys.take j).map fun s => (s, (g s : Int))).length ≤ j := by simp; omega
        by_cases hjl : j < ys.length
        · obtain ⟨s, hs⟩ := get_some hjl
          obtain ⟨yb, yoff, rfl, hyc⟩ := YC.out j s hs
          have ec : wr.cell? ⟨yb, yoff + j, none⟩ = some (.int .u32 (iv s)) := hyc wr hnx
          have N := hid (show (ys.take (j + 1)).map (fun s => (s, (g s : Int))) = (ys.take j).map (fun s => (s, (g s : Int))) ++ [(s, (g s : Int))] by rw [take_next hs, List.map_append]; rfl)
          have M5 := hid (M4.out.below hnx)
          have GS := hid (GB.out s)
          clear hyc hs
          generalize (ys.take j).map (fun s => (s, (g s : Int))) = out at *
          go_wp2_with (first | (at_lookup; refine wpList_mlook (E := cntElems Try.prog 2 undI64) (z := 0) (f := g) (n := n) (b := b) (k := 33) rfl _ _ 78 rfl undU32 undMapC (zeroC _) rfl M5.out.toM s rfl ?_; show wpList _ _ _ _ (Act.put _ _ (.int .i64 (capN (g s)))) _; rw [GS.out]) | (at_builtin; refine wpList_pushC rfl _ _ 28 rfl w4.heap.size 35 (.agg #[.int .u32 0, .int .i64 0]) 2 16 undCts infoCt rfl (by decide) (by decide) cC cC_length cC_one _ out rfl (hown.alloc _) ⟨wr.heap.size, 0, none⟩ (s, (g s : Int)) rfl (cells_newC _ (s, (g s : Int))) (by omega) (by simp; omega) ?_))
          intro v' w5 hown' hgrow
          have hb5 : Below w4.heap.size w4 w5 := below_push hnx hsz' hown hgrow
          clear hgrow hown hnx ec
          go_wp2_with fail
          go_roundw
          case rel => exact ⟨j + 1, by omega, by go_num, by rw [N.out]; simpa using hown', hb5⟩
          case measure => simp [intOf]; omega
        · rw [take_all hjl, ← MG.out] at hown
          have hs5 : w.heap.size ≤ w4.heap.size := by omega
          have OO := hid (own_mono hown hs5)
          have BB := hid (B2.out.trans ((B4.out.trans (hnx.mono hs4)).mono hs2))
          clear hown hnx
          go_wp2_with fail
          go_ret2
          exact ⟨_, rfl, OO.out, BB.out⟩
    · intro s c w4 cnt2 hls hps hrg4 hlt hg4 hs4 hen
      have hl4 := own_grown2 hl hg4 (by omega)
      have hnx4 : Below w2.heap.size w2 w4 := hnx.grown hg4 hnx.size (fun j hj => by cases hj; exact Nat.le_refl _)
      have CL4 := hid (CL.out.next hls hps)
      have RG4 := hid hrg4
      have HS4 := hid hs4
      have hsz4 : w2.heap.size + 1 ≤ w4.heap.size := by omega
      clear hl hnx hrg hg4 hrg4 hs4
      go_wp2_with (at_builtin; go_must (refine wpList_push rfl _ _ 37 rfl (w2.heap.size + 1) 33 (.int .u32 0) 4 undSets infoSet rfl (by decide) enc (fun _ => rfl) _ ks rfl (hl4.alloc _) ⟨w4.heap.size, 0, none⟩ s rfl (by simp [enc]) (by omega) (by simp; omega) ?_))
      intro v' w5 hown5 hgrow
      have RG5 := hid ((RG4.out.below (below_alloc w4 _)).kept hgrow (fun e => by have := (hl4.lt _ e.symm).1; omega) (fun e => by have := (hl4.lt _ e.symm).1; omega))
      have hb5 := hid (below_push hnx4 hnx4.size (own_mono hl4 (by omega)) hgrow)
      have hs5 := hgrow.size
      simp at hs5
      have ho5 := hid hown5
      have MS := hid (show wr.rangeLeft b w2.heap.size = cnt1 ∧ w5.rangeLeft b w2.heap.size = cnt2 from ⟨hLE.out, RG5.out.left_eq⟩)
      clear hgrow hl4 hnx4 hown5 hen hLE
      go_wp2_with fail
      go_roundw
      case rel => exact ⟨_, cnt2, ks ++ [s], RG5.out, by simpa using ho5.out, CL4, by simp; omega, hb5.out, by omega⟩
      case measure => rw [MS.out.1, MS.out.2]; exact hlt

end Go.Proofs.Ytkehelplmipenaa
