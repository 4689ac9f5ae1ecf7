/- The walks of the reference's Sets and without, and of Maximal and Differences. -/
import Derived.Test.YtkehelplmipenaaTab12
import Derived.Test.YtkehelplmipenaaTab15
import Derived.Test.YtkehelplmipenaaTab16
import Derived.Test.YtkehelplmipenaaTab17
import Derived.Test.YtkehelplmipenaaRed
namespace Go.Proofs.Ytkehelplmipenaa
open Go.RowKit

set_option maxRecDepth 100000 in
theorem rsets_err (t : T3) (av rv : Value) (w : World) (ht : RdT w av rv t) (hk : tabE2 t ≠ 0) :
    Calls Try.prog 14 #[.agg #[.string t.1, av, rv]] w fun e w' => e = .returned (.tuple #[.slice none 0 0, .int .i64 (tabE2 t)]) ∧ Below w.heap.size w w' := by
  have hb0 := below_alloc w (.cells #[.string t.1, av, rv] 25)
  have C3 := hid (fun W h => cells3 (w := w) (a := .string t.1) (b := av) (c := rv) (t := 25) W h)
  have T0 := hid (ht.below hb0)
  obtain ⟨w0, hw0⟩ : ∃ w0 : World, w.alloc (.cells #[.string t.1, av, rv] 25) = w0 := ⟨_, rfl⟩
  rw [hw0] at hb0 C3 T0
  have B0 := hid hb0
  have W0 := hid hw0
  have hsz0 := hb0.size
  clear hb0 hw0
  have CH := hid (refError_any t av rv _ T0.out)
  obtain ⟨c0, c1, c2⟩ := C3.out _ (Below.refl _ _)
  have hne : ((tabE2 t) != (0 : Int)) = true := by simpa using hk
  clear hk ht T0 C3
  generalize tabE2 t = n at *
  obtain ⟨nm, ats, rs⟩ := t
  go_enter Try.func14, Try.ntmps14
  go_wp2_with fail
  rw [W0.out]
  go_wp2_with fail
  refine CH.out.mono ?_
  rintro e w1 ⟨rfl, hb1⟩
  have B1 := hid (B0.out.trans (hb1.mono B0.out.size))
  clear hb1
  go_wp2_with fail
  go_ret2
  exact ⟨rfl, B1.out⟩

theorem count_next {G : List S} {m : Nat} {x : S} (h : G[m]? = some x) (s : S) : (G.take (m + 1)).count s = (G.take m).count s + (if x == s then 1 else 0) := by
  rw [take_next h, List.count_append, List.count_singleton]
set_option maxHeartbeats 1600000 in
set_option maxRecDepth 100000 in
theorem rsets_ok (t : T3) (av rv : Value) (w : World) (ht : RdT w av rv t) (hk : tabE2 t = 0) :
    Calls Try.prog 14 #[.agg #[.string t.1, av, rv]] w fun e w' => ∃ v', e = .returned (.tuple #[v', .int .i64 0]) ∧ w'.ownsRow w.heap.size 35 2 v' (cntL (pairsS t.2.2)).length ((cntL (pairsS t.2.2)).flatMap cC) ∧ Below w.heap.size w w' := by
  have hb0 := below_alloc w (.cells #[.string t.1, av, rv] 25)
  have C3 := hid (fun W h => cells3 (w := w) (a := .string t.1) (b := av) (c := rv) (t := 25) W h)
  have T0 := hid (ht.below hb0)
  obtain ⟨w0, hw0⟩ : ∃ w0 : World, w.alloc (.cells #[.string t.1, av, rv] 25) = w0 := ⟨_, rfl⟩
  rw [hw0] at hb0 C3 T0
  have B0 := hid hb0
  have W0 := hid hw0
  have hsz0 := hb0.size
  clear hb0 hw0
  have CH := hid (refError_any t av rv _ T0.out)
  have CP := hid (fun (W : World) (h : Below w0.heap.size w0 W) => pairs_any t av rv W (T0.out.below h) hk)
  have AO := hid (fun (xs : List S) (u : Value) (W : World) (h : RdE enc W u xs) (hh : xs.length < 17592186044416) => refOrder_any xs u W h hh)
  have KK := hid hk
  have hG4 : (pairsS t.2.2).length ≤ 40000 := Nat.le_trans (pairsS_length _) (Nat.mul_le_mul (tabE2_ok hk).2.1 (tabE2_ok hk).2.1)
  obtain ⟨nm, ats, rs⟩ := t
  obtain ⟨G, hG⟩ : ∃ G, pairsS (nm, ats, rs).2.2 = G := ⟨_, rfl⟩
  rw [hG] at CP hG4 ⊢
  obtain ⟨c0, c1, c2⟩ := C3.out _ (Below.refl _ _)
  clear hG hk ht
  go_enter Try.func14, Try.ntmps14
  go_wp2_with fail
  rw [W0.out]
  go_wp2_with fail
  refine CH.out.mono ?_
  rw [KK.out]
  rintro e w1 ⟨rfl, hb1⟩
  have B1 := hid hb1
  obtain ⟨d0, d1, d2⟩ := C3.out _ hb1
  clear hb1 c0 c1 c2
  go_wp2_with fail
  refine (CP.out _ B1.out).mono ?_
  rintro e w2 ⟨v2, rfl, hown2, hb2⟩
  have B2 := hid (B0.out.trans (B1.out.trans (hb2.mono B1.out.size) |>.mono hsz0))
  have R2 := hid (RdE.of_owns hown2 (by omega))
  have hs2 := B2.out.size
  clear hown2 hb2 d0 d1 d2
  obtain ⟨go, gcap, rfl, -, hgc⟩ := R2.out.split
  have GC := hid hgc
  clear hgc
  go_wp2_with fail
  refine (AO.out G _ _ R2.out (by omega)).mono ?_
  rintro e w4 ⟨v4, ys, rfl, ho4, hord, hyl, hb4⟩
  have hys := ordS_of hord (fun _ => Iff.rfl)
  have B4 := hid hb4
  have R4 := hid (RdE.of_owns ho4 (by omega))
  obtain ⟨yo, ycap, rfl, -, hyc⟩ := R4.out.split
  have YC := hid hyc
  have hs4 := B4.out.size
  have MG := hid (show cntL G = ys.map (fun s => (s, (G.count s : Int))) by unfold cntL; rw [← hys])
  have CN := hid (fun (m : Nat) (x : S) (h : G[m]? = some x) (s : S) => count_next h s)
  clear ho4 hord hb4 hyc hys
  go_wp2_with fail
  go_loopw [7, 8] (fun u i wr => ∃ j : Nat, j ≤ ys.length ∧ i = .int .i64 j ∧ wr.ownsRow w4.heap.size 35 2 u ((ys.take j).map fun s => (s, (G.count s : Int))).length (((ys.take j).map fun s => (s, (G.count s : Int))).flatMap cC) ∧ Below w4.heap.size w4 wr) (fun _ i _ => ys.length - (intOf i).toNat)
  case atStart => exact ⟨0, Nat.zero_le _, rfl, World.ownsRow_nil _ _ _ _, Below.refl _ _⟩
  case round =>
    obtain ⟨j, hj, rfl, hown, hnx⟩ := hrel
    have hsz' := hnx.size
    have hll : ((ys.take j).map fun s => (s, (G.count s : Int))).length ≤ j := by simp; omega
    by_cases hjl : j < ys.length
    · obtain ⟨s, hs⟩ := get_some hjl
      obtain ⟨yb, yoff, rfl, hyc⟩ := YC.out j s hs
      have N := hid (show (ys.take (j + 1)).map (fun s => (s, (G.count s : Int))) = (ys.take j).map (fun s => (s, (G.count s : Int))) ++ [(s, (G.count s : Int))] by rw [take_next hs, List.map_append]; rfl)
      have YS := hid hyc
      have j0 : (0 : Int) ≤ (j : Int) := by omega
      obtain ⟨wo, rfl⟩ : ∃ wo : World, wo = wr := ⟨_, rfl⟩
      have HO := hid hown
      have HN := hid hnx
      clear hyc hs hown hnx
      generalize (ys.take j).map (fun s => (s, (G.count s : Int))) = out at *
      go_wp2_with fail
      go_loopw [9, 10] (fun c i wr => ∃ m : Nat, m ≤ G.length ∧ i = .int .i64 m ∧ c = .int .i64 ((G.take m).count s : Nat) ∧ Below wo.heap.size wo wr) (fun _ i _ => G.length - (intOf i).toNat)
      case atStart => exact ⟨0, Nat.zero_le _, rfl, rfl, Below.refl _ _⟩
      case round =>
        obtain ⟨m, hm, rfl, rfl, hnx⟩ := hrel
        have NX := hid hnx
        have BX := hid (HN.out.trans (hnx.mono hsz'))
        have BG := hid (B4.out.trans (BX.out.mono hs4))
        have m0 : (0 : Int) ≤ (m : Int) := by omega
        have hcm : (G.take m).count s ≤ 40000 := Nat.le_trans List.count_le_length (by rw [List.length_take]; omega)
        have ey : wr.cell? ⟨yb, yoff + j, none⟩ = some (.int .u32 (iv s)) := YS.out wr BX.out
        clear hnx
        by_cases hlt2 : m < G.length
        · obtain ⟨x, hx⟩ := get_some hlt2
          obtain ⟨b1, off1, rfl, hd1⟩ := GC.out m x hx
          have eg : wr.cell? ⟨b1, off1 + m, none⟩ = some (.int .u32 (iv x)) := hd1 wr BG.out
          have CN1 := hid (CN.out m x hx s)
          clear hd1 hx
          generalize (G.take m).count s = c at *
          cases hq : (x == s) with
          | false =>
            rw [hq] at CN1
            go_wp2_with fail
            go_quiet (fail)
            go_wp2_with fail
            go_roundw
            case rel => exact ⟨m + 1, by omega, by go_num, by rw [CN1.out]; rfl, below_drewN' NX.out _⟩
            case measure => simp [intOf]; omega
          | true =>
            rw [hq] at CN1
            go_wp2_with fail
            go_quiet (fail)
            go_wp2_with fail
            go_roundw
            case rel => exact ⟨m + 1, by omega, by go_num, by rw [CN1.out]; simp, below_drewN' NX.out _⟩
            case measure => simp [intOf]; omega
        · have HC := hid (show (G.take m).count s = G.count s by rw [List.take_of_length_le (by omega)])
          have hown := own_below HO.out NX.out
          have hsz3 := BX.out.size
          rw [HC.out] at hcm ⊢
          clear HC
          generalize G.count s = c at *
          go_wp2_with (at_builtin; refine wpList_pushC rfl _ _ 28 rfl w4.heap.size 35 (.agg #[.int .u32 0, .int .i64 0]) 2 16 undCts infoCt rfl (by decide) (by decide) cC cC_length cC_one _ out rfl (hown.alloc _) ⟨wr.heap.size, 0, none⟩ (s, (c : Int)) rfl (cells_newC _ (s, (c : Int))) (by omega) (by simp; omega) ?_)
          intro v' w5 hown' hgrow
          have hb5 := hid (below_push BX.out hsz3 hown hgrow)
          have HO5 := hid hown'
          clear hgrow hown hown' ey
          go_wp2_with fail
          go_roundw
          case rel => exact ⟨j + 1, by omega, by go_num, by rw [N.out]; simpa using HO5.out, hb5.out⟩
          case measure => simp [intOf]; omega
    · rw [take_all hjl, ← MG.out] at hown
      have OO := hid (own_mono hown (show w.heap.size ≤ w4.heap.size by omega))
      have BB := hid (B2.out.trans ((B4.out.trans (hnx.mono hs4)).mono hs2))
      clear hown hnx
      go_wp2_with fail
      go_ret2
      exact ⟨_, rfl, OO.out, BB.out⟩

theorem without_take {G : List S} {m a : Nat} {x : S} (h : G[m]? = some x) : withoutS (G.take (m + 1)) a = withoutS (G.take m) a ++ (if x.getLsbD a = true then [] else [x]) := by
  unfold withoutS
  rw [take_next h, List.filter_append]
  cases hq : x.getLsbD a <;> simp [hq]
theorem withoutS_length (G : List S) (a : Nat) : (withoutS G a).length ≤ G.length := List.length_filter_le _ _
set_option maxHeartbeats 1600000 in
set_option maxRecDepth 100000 in
theorem rwithout_any (t : T3) (av rv : Value) (a : Nat) (w : World) (ht : RdT w av rv t) (hk : tabE2 t = 0) (ha : a < 32) :
    Calls Try.prog 47 #[.agg #[.string t.1, av, rv], .int .i64 (a : Int)] w fun e w' => ∃ v', e = .returned v' ∧ w'.ownsRow w.heap.size 33 1 v' (withoutS (pairsS t.2.2) a).length ((withoutS (pairsS t.2.2) a).map enc) ∧ Below w.heap.size w w' := by
  have hb0 := below_alloc w (.cells #[.string t.1, av, rv] 25)
  have C3 := hid (fun W h => cells3 (w := w) (a := .string t.1) (b := av) (c := rv) (t := 25) W h)
  have T0 := hid (ht.below hb0)
  obtain ⟨w0, hw0⟩ : ∃ w0 : World, w.alloc (.cells #[.string t.1, av, rv] 25) = w0 := ⟨_, rfl⟩
  rw [hw0] at hb0 C3 T0
  have B0 := hid hb0
  have W0 := hid hw0
  have hsz0 := hb0.size
  clear hb0 hw0
  have CP := hid (pairs_any t av rv _ T0.out hk)
  have hG4 : (pairsS t.2.2).length ≤ 40000 := Nat.le_trans (pairsS_length _) (Nat.mul_le_mul (tabE2_ok hk).2.1 (tabE2_ok hk).2.1)
  have HA := hid (fun (s : S) (W : World) => has_any s a ha W)
  obtain ⟨nm, ats, rs⟩ := t
  obtain ⟨G, hG⟩ : ∃ G, pairsS (nm, ats, rs).2.2 = G := ⟨_, rfl⟩
  rw [hG] at CP hG4 ⊢
  obtain ⟨c0, c1, c2⟩ := C3.out _ (Below.refl _ _)
  simp only [enc_eq] at HA
  clear hG hk ht
  have WT := hid (fun (m : Nat) (x : S) (h : G[m]? = some x) => without_take (a := a) h)
  go_enter Try.func47, Try.ntmps47
  go_wp2_with fail
  rw [W0.out]
  go_wp2_with fail
  refine CP.out.mono ?_
  rintro e w2 ⟨v2, rfl, hown2, hb2⟩
  have B2 := hid (B0.out.trans (hb2.mono hsz0))
  have R2 := hid (RdE.of_owns hown2 (by omega))
  have hs2 := B2.out.size
  clear hown2 hb2 c0 c1 c2
  obtain ⟨go, gcap, rfl, -, hgc⟩ := R2.out.split
  have GC := hid hgc
  clear hgc
  go_wp2_with fail
  go_loopw [5, 7] (fun u i wr => ∃ m : Nat, m ≤ G.length ∧ i = .int .i64 m ∧ wr.ownsRow w2.heap.size 33 1 u (withoutS (G.take m) a).length ((withoutS (G.take m) a).map enc) ∧ Below w2.heap.size w2 wr) (fun _ i _ => G.length - (intOf i).toNat)
  case atStart => exact ⟨0, Nat.zero_le _, rfl, World.ownsRow_nil _ _ _ _, Below.refl _ _⟩
  case round =>
    obtain ⟨m, hm, rfl, hown, hnx⟩ := hrel
    have hsz' := hnx.size
    have hll : (withoutS (G.take m) a).length ≤ m := Nat.le_trans (withoutS_length _ _) (by rw [List.length_take]; omega)
    by_cases hlt : m < G.length
    · obtain ⟨x, hx⟩ := get_some hlt
      obtain ⟨b1, off1, rfl, hd1⟩ := GC.out m x hx
      have eg : wr.cell? ⟨b1, off1 + m, none⟩ = some (.int .u32 (iv x)) := hd1 wr hnx
      have W1 := hid (WT.out m x hx)
      have HX := hid (HA.out x wr)
      have m0 : (0 : Int) ≤ (m : Int) := by omega
      clear hd1 hx
      generalize withoutS (G.take m) a = L at *
      cases hq : x.getLsbD a with
      | true =>
        rw [hq] at W1 HX
        have W2 := hid (show withoutS (G.take (m + 1)) a = L by rw [W1.out]; simp)
        have HO := hid hown
        have HN := hid hnx
        clear hq hown hnx
        go_wp2_with fail
        refine HX.out.mono ?_
        rintro e w' ⟨rfl, rfl⟩
        go_wp2_with fail
        go_roundw
        case rel => exact ⟨m + 1, by omega, by go_num, by rw [W2.out]; exact HO.out, HN.out⟩
        case measure => simp [intOf]; omega
      | false =>
        rw [hq] at W1 HX
        have W2 := hid (show withoutS (G.take (m + 1)) a = L ++ [x] by rw [W1.out]; rfl)
        clear hq
        go_wp2_with fail
        refine HX.out.mono ?_
        rintro e w' ⟨rfl, rfl⟩
        go_wp2_with (at_builtin; refine wpList_push rfl _ _ 37 rfl w2.heap.size 33 (.int .u32 0) 4 undSets infoSet rfl (by decide) enc (fun _ => rfl) _ L rfl (hown.alloc _) ⟨wr.heap.size, 0, none⟩ x rfl cell_new (by omega) (by simp; omega) ?_)
        intro v' w4 hown' hgrow
        have hb4 := hid (below_push hnx hsz' hown hgrow)
        have HO4 := hid hown'
        clear hgrow hown hnx hown' eg
        go_wp2_with fail
        go_roundw
        case rel => exact ⟨m + 1, by omega, by go_num, by rw [W2.out]; simpa using HO4.out, hb4.out⟩
        case measure => simp [intOf]; omega
    · rw [take_all hlt] at hown
      have HO := hid (own_mono hown hs2)
      have HN := hid (B2.out.trans (hnx.mono hs2))
      clear hown hnx
      go_wp2_with fail
      go_ret
      exact ⟨_, rfl, HO.out, HN.out⟩

set_option maxRecDepth 100000 in
theorem amax_err (t : T3) (av rv : Value) (a : Int) (w : World) (ht : RdT w av rv t) (hk : arityE t a ≠ 0) :
    Calls Try.prog 16 #[.agg #[.string t.1, av, rv], .int .i64 a] w fun e w' => e = .returned (.tuple #[.slice none 0 0, .int .i64 (arityE t a)]) ∧ Below w.heap.size w w' := by
  have hb0 := below_alloc w (.cells #[.string t.1, av, rv] 25)
  have C3 := hid (fun W h => cells3 (w := w) (a := .string t.1) (b := av) (c := rv) (t := 25) W h)
  have T0 := hid (ht.below hb0)
  obtain ⟨w0, hw0⟩ : ∃ w0 : World, w.alloc (.cells #[.string t.1, av, rv] 25) = w0 := ⟨_, rfl⟩
  rw [hw0] at hb0 C3 T0
  have B0 := hid hb0
  have W0 := hid hw0
  have hsz0 := hb0.size
  clear hb0 hw0
  have CH := hid (without_err t av rv a _ T0.out hk)
  obtain ⟨c0, c1, c2⟩ := C3.out _ (Below.refl _ _)
  have hne : ((arityE t a) != (0 : Int)) = true := by simpa using hk
  clear hk ht T0 C3
  generalize arityE t a = n at *
  obtain ⟨nm, ats, rs⟩ := t
  go_enter Try.func16, Try.ntmps16
  go_wp2_with fail
  rw [W0.out]
  go_wp2_with fail
  refine CH.out.mono ?_
  rintro e w1 ⟨rfl, hb1⟩
  have B1 := hid (B0.out.trans (hb1.mono B0.out.size))
  clear hb1
  go_wp2_with fail
  go_ret2
  exact ⟨rfl, B1.out⟩

set_option maxRecDepth 100000 in
theorem adiff_err (t : T3) (av rv : Value) (a : Int) (w : World) (ht : RdT w av rv t) (hk : arityE t a ≠ 0) :
    Calls Try.prog 18 #[.agg #[.string t.1, av, rv], .int .i64 a] w fun e w' => e = .returned (.tuple #[.slice none 0 0, .int .i64 (arityE t a)]) ∧ Below w.heap.size w w' := by
  have hb0 := below_alloc w (.cells #[.string t.1, av, rv] 25)
  have C3 := hid (fun W h => cells3 (w := w) (a := .string t.1) (b := av) (c := rv) (t := 25) W h)
  have T0 := hid (ht.below hb0)
  obtain ⟨w0, hw0⟩ : ∃ w0 : World, w.alloc (.cells #[.string t.1, av, rv] 25) = w0 := ⟨_, rfl⟩
  rw [hw0] at hb0 C3 T0
  have B0 := hid hb0
  have W0 := hid hw0
  have hsz0 := hb0.size
  clear hb0 hw0
  have CH := hid (without_err t av rv a _ T0.out hk)
  obtain ⟨c0, c1, c2⟩ := C3.out _ (Below.refl _ _)
  have hne : ((arityE t a) != (0 : Int)) = true := by simpa using hk
  clear hk ht T0 C3
  generalize arityE t a = n at *
  obtain ⟨nm, ats, rs⟩ := t
  go_enter Try.func18, Try.ntmps18
  go_wp2_with fail
  rw [W0.out]
  go_wp2_with fail
  refine CH.out.mono ?_
  rintro e w1 ⟨rfl, hb1⟩
  have B1 := hid (B0.out.trans (hb1.mono B0.out.size))
  clear hb1
  go_wp2_with fail
  go_ret2
  exact ⟨rfl, B1.out⟩

set_option maxHeartbeats 800000 in
set_option maxRecDepth 100000 in
theorem rmax_err (t : T3) (av rv : Value) (a : Int) (w : World) (ht : RdT w av rv t) (hk : arityE t a ≠ 0) :
    Calls Try.prog 17 #[.agg #[.string t.1, av, rv], .int .i64 a] w fun e w' => e = .returned (.tuple #[.slice none 0 0, .int .i64 (arityE t a)]) ∧ Below w.heap.size w w' := by
  have hb0 := below_alloc w (.cells #[.string t.1, av, rv] 25)
  have C3 := hid (fun W h => cells3 (w := w) (a := .string t.1) (b := av) (c := rv) (t := 25) W h)
  have T0 := hid (ht.below hb0)
  obtain ⟨w0, hw0⟩ : ∃ w0 : World, w.alloc (.cells #[.string t.1, av, rv] 25) = w0 := ⟨_, rfl⟩
  rw [hw0] at hb0 C3 T0
  have B0 := hid hb0
  have W0 := hid hw0
  have hsz0 := hb0.size
  clear hb0 hw0
  have CH := hid (refError_any t av rv _ T0.out)
  obtain ⟨nm, ats, rs⟩ := t
  obtain ⟨ao, acap, rfl, -⟩ := RdE.split ht.1
  have AE := hid (show arityE (nm, ats, rs) a = if tabE2 (nm, ats, rs) ≠ 0 then tabE2 (nm, ats, rs) else if a < 0 ∨ (ats.length : Int) ≤ a then 6 else 0 from rfl)
  obtain ⟨c0, c1, c2⟩ := C3.out _ (Below.refl _ _)
  clear ht T0
  by_cases he : tabE2 (nm, ats, rs) = 0
  · rw [he, if_neg (by simp)] at AE
    have KK := hid he
    clear he
    by_cases ha : a < 0
    · have AE2 := hid (show arityE (nm, ats, rs) a = 6 by rw [AE.out, if_pos (.inl ha)])
      rw [AE2.out]
      clear hk
      go_enter Try.func17, Try.ntmps17
      go_wp2_with fail
      rw [W0.out]
      go_wp2_with fail
      refine CH.out.mono ?_
      rw [KK.out]
      rintro e w1 ⟨rfl, hb1⟩
      have B1 := hid (B0.out.trans (hb1.mono B0.out.size))
      obtain ⟨d0, d1, d2⟩ := C3.out _ hb1
      clear hb1
      go_wp2_with fail
      go_ret2
      exact ⟨rfl, B1.out⟩
    · have ha2 : (ats.length : Int) ≤ a := by
        rcases Int.lt_or_le a ats.length with h | h
        · exfalso; apply hk; rw [AE.out, if_neg (by omega)]
        · exact h
      have AE2 := hid (show arityE (nm, ats, rs) a = 6 by rw [AE.out, if_pos (.inr ha2)])
      rw [AE2.out]
      have ha3 : decide (a ≥ (ats.length : Int)) = true := by simpa using ha2
      clear hk ha2
      go_enter Try.func17, Try.ntmps17
      go_wp2_with fail
      rw [W0.out]
      go_wp2_with fail
      refine CH.out.mono ?_
      rw [KK.out]
      rintro e w1 ⟨rfl, hb1⟩
      have B1 := hid (B0.out.trans (hb1.mono B0.out.size))
      obtain ⟨d0, d1, d2⟩ := C3.out _ hb1
      clear hb1
      go_wp2_with fail
      go_ret2
      exact ⟨rfl, B1.out⟩
  · rw [if_pos he] at AE
    rw [AE.out]
    have hne : ((tabE2 (nm, ats, rs)) != (0 : Int)) = true := by simpa using he
    clear AE he hk
    generalize tabE2 (nm, ats, rs) = n at *
    go_enter Try.func17, Try.ntmps17
    go_wp2_with fail
    rw [W0.out]
    go_wp2_with fail
    refine CH.out.mono ?_
    rintro e w1 ⟨rfl, hb1⟩
    have B1 := hid (B0.out.trans (hb1.mono B0.out.size))
    obtain ⟨d0, d1, d2⟩ := C3.out _ hb1
    clear hb1
    go_wp2_with fail
    go_ret2
    exact ⟨rfl, B1.out⟩

set_option maxHeartbeats 800000 in
set_option maxRecDepth 100000 in
theorem rdiff_err (t : T3) (av rv : Value) (a : Int) (w : World) (ht : RdT w av rv t) (hk : arityE t a ≠ 0) :
    Calls Try.prog 19 #[.agg #[.string t.1, av, rv], .int .i64 a] w fun e w' => e = .returned (.tuple #[.slice none 0 0, .int .i64 (arityE t a)]) ∧ Below w.heap.size w w' := by
  have hb0 := below_alloc w (.cells #[.string t.1, av, rv] 25)
  have C3 := hid (fun W h => cells3 (w := w) (a := .string t.1) (b := av) (c := rv) (t := 25) W h)
  have T0 := hid (ht.below hb0)
  obtain ⟨w0, hw0⟩ : ∃ w0 : World, w.alloc (.cells #[.string t.1, av, rv] 25) = w0 := ⟨_, rfl⟩
  rw [hw0] at hb0 C3 T0
  have B0 := hid hb0
  have W0 := hid hw0
  have hsz0 := hb0.size
  clear hb0 hw0
  have CH := hid (refError_any t av rv _ T0.out)
  obtain ⟨nm, ats, rs⟩ := t
  obtain ⟨ao, acap, rfl, -⟩ := RdE.split ht.1
  have AE := hid (show arityE (nm, ats, rs) a = if tabE2 (nm, ats, rs) ≠ 0 then tabE2 (nm, ats, rs) else if a < 0 ∨ (ats.length : Int) ≤ a then 6 else 0 from rfl)
  obtain ⟨c0, c1, c2⟩ := C3.out _ (Below.refl _ _)
  clear ht T0
  by_cases he : tabE2 (nm, ats, rs) = 0
  · rw [he, if_neg (by simp)] at AE
    have KK := hid he
    clear he
    by_cases ha : a < 0
    · have AE2 := hid (show arityE (nm, ats, rs) a = 6 by rw [AE.out, if_pos (.inl ha)])
      rw [AE2.out]
      clear hk
      go_enter Try.func19, Try.ntmps19
      go_wp2_with fail
      rw [W0.out]
      go_wp2_with fail
      refine CH.out.mono ?_
      rw [KK.out]
      rintro e w1 ⟨rfl, hb1⟩
      have B1 := hid (B0.out.trans (hb1.mono B0.out.size))
      obtain ⟨d0, d1, d2⟩ := C3.out _ hb1
      clear hb1
      go_wp2_with fail
      go_ret2
      exact ⟨rfl, B1.out⟩
    · have ha2 : (ats.length : Int) ≤ a := by
        rcases Int.lt_or_le a ats.length with h | h
        · exfalso; apply hk; rw [AE.out, if_neg (by omega)]
        · exact h
      have AE2 := hid (show arityE (nm, ats, rs) a = 6 by rw [AE.out, if_pos (.inr ha2)])
      rw [AE2.out]
      have ha3 : decide (a ≥ (ats.length : Int)) = true := by simpa using ha2
      clear hk ha2
      go_enter Try.func19, Try.ntmps19
      go_wp2_with fail
      rw [W0.out]
      go_wp2_with fail
      refine CH.out.mono ?_
      rw [KK.out]
      rintro e w1 ⟨rfl, hb1⟩
      have B1 := hid (B0.out.trans (hb1.mono B0.out.size))
      obtain ⟨d0, d1, d2⟩ := C3.out _ hb1
      clear hb1
      go_wp2_with fail
      go_ret2
      exact ⟨rfl, B1.out⟩
  · rw [if_pos he] at AE
    rw [AE.out]
    have hne : ((tabE2 (nm, ats, rs)) != (0 : Int)) = true := by simpa using he
    clear AE he hk
    generalize tabE2 (nm, ats, rs) = n at *
    go_enter Try.func19, Try.ntmps19
    go_wp2_with fail
    rw [W0.out]
    go_wp2_with fail
    refine CH.out.mono ?_
    rintro e w1 ⟨rfl, hb1⟩
    have B1 := hid (B0.out.trans (hb1.mono B0.out.size))
    obtain ⟨d0, d1, d2⟩ := C3.out _ hb1
    clear hb1
    go_wp2_with fail
    go_ret2
    exact ⟨rfl, B1.out⟩

set_option maxRecDepth 100000 in
theorem amax_ok (t : T3) (av rv : Value) (a : Nat) (w : World) (ht : RdT w av rv t) (hk : tabE2 t = 0) (ha : a < t.2.1.length) :
    Calls Try.prog 16 #[.agg #[.string t.1, av, rv], .int .i64 (a : Int)] w fun e w' => ∃ v', e = .returned (.tuple #[v', .int .i64 0]) ∧ w'.ownsRow w.heap.size 33 1 v' (keepS upR (withoutS (pairsS t.2.2) a)).length ((keepS upR (withoutS (pairsS t.2.2) a)).map enc) ∧ Below w.heap.size w w' := by
  have hb0 := below_alloc w (.cells #[.string t.1, av, rv] 25)
  have C3 := hid (fun W h => cells3 (w := w) (a := .string t.1) (b := av) (c := rv) (t := 25) W h)
  have T0 := hid (ht.below hb0)
  obtain ⟨w0, hw0⟩ : ∃ w0 : World, w.alloc (.cells #[.string t.1, av, rv] 25) = w0 := ⟨_, rfl⟩
  rw [hw0] at hb0 C3 T0
  have B0 := hid hb0
  have W0 := hid hw0
  have hsz0 := hb0.size
  clear hb0 hw0
  have CW := hid (without_ok t av rv a _ T0.out hk ha)
  have AM := hid (fun (xs : List S) (u : Value) (W : World) (h : RdE enc W u xs) (hh : xs.length < 17592186044416) => amaximal_any xs u W h hh)
  obtain ⟨nm, ats, rs⟩ := t
  obtain ⟨G, hG⟩ : ∃ G, withoutS (pairsS (nm, ats, rs).2.2) a = G := ⟨_, rfl⟩
  rw [hG] at CW ⊢
  obtain ⟨c0, c1, c2⟩ := C3.out _ (Below.refl _ _)
  clear hG hk ht ha
  go_enter Try.func16, Try.ntmps16
  go_wp2_with fail
  rw [W0.out]
  go_wp2_with fail
  refine CW.out.mono ?_
  rintro e w1 ⟨v1, ks, rfl, hown, hmem, hkl, hb1⟩
  have KC := hid (keepS_congr upR hmem)
  have B1 := hid (B0.out.trans (hb1.mono hsz0))
  have hs1 := B1.out.size
  have R1 := hid (RdE.of_owns hown (by omega))
  clear hown hmem hb1
  go_wp2_with fail
  refine (AM.out ks _ _ R1.out (by omega)).mono ?_
  rintro e w2 ⟨v2, rfl, hown2, hb2⟩
  rw [KC.out] at hown2
  have O2 := hid (own_mono hown2 hs1)
  have B2 := hid (B1.out.trans (hb2.mono hs1))
  clear hown2 hb2
  go_wp2_with fail
  go_ret2
  exact ⟨_, rfl, O2.out, B2.out⟩

set_option maxRecDepth 100000 in
theorem rmax_ok (t : T3) (av rv : Value) (a : Nat) (w : World) (ht : RdT w av rv t) (hk : tabE2 t = 0) (ha : a < t.2.1.length) :
    Calls Try.prog 17 #[.agg #[.string t.1, av, rv], .int .i64 (a : Int)] w fun e w' => ∃ v', e = .returned (.tuple #[v', .int .i64 0]) ∧ w'.ownsRow w.heap.size 33 1 v' (keepS upR (withoutS (pairsS t.2.2) a)).length ((keepS upR (withoutS (pairsS t.2.2) a)).map enc) ∧ Below w.heap.size w w' := by
  have hb0 := below_alloc w (.cells #[.string t.1, av, rv] 25)
  have C3 := hid (fun W h => cells3 (w := w) (a := .string t.1) (b := av) (c := rv) (t := 25) W h)
  have T0 := hid (ht.below hb0)
  obtain ⟨w0, hw0⟩ : ∃ w0 : World, w.alloc (.cells #[.string t.1, av, rv] 25) = w0 := ⟨_, rfl⟩
  rw [hw0] at hb0 C3 T0
  have B0 := hid hb0
  have W0 := hid hw0
  have hsz0 := hb0.size
  clear hb0 hw0
  have h16 := (tabE2_ok hk).1
  have CH := hid (refError_any t av rv _ T0.out)
  have CW := hid (fun (W : World) (h : Below w0.heap.size w0 W) => rwithout_any t av rv a W (T0.out.below h) hk (by omega))
  have AM := hid (fun (xs : List S) (u : Value) (W : World) (h : RdE enc W u xs) (hh : xs.length < 17592186044416) => ref2Maximal_any xs u W h hh)
  have hG4 : (withoutS (pairsS t.2.2) a).length ≤ 40000 := Nat.le_trans (withoutS_length _ _) (Nat.le_trans (pairsS_length _) (Nat.mul_le_mul (tabE2_ok hk).2.1 (tabE2_ok hk).2.1))
  have KK := hid hk
  obtain ⟨nm, ats, rs⟩ := t
  replace ha : a < ats.length := ha
  obtain ⟨ao, acap, rfl, -⟩ := RdE.split ht.1
  obtain ⟨G, hG⟩ : ∃ G, withoutS (pairsS (nm, ats, rs).2.2) a = G := ⟨_, rfl⟩
  rw [hG] at CW hG4 ⊢
  obtain ⟨c0, c1, c2⟩ := C3.out _ (Below.refl _ _)
  have a0 : (0 : Int) ≤ (a : Int) := by omega
  have an0 : ¬ (a : Int) < 0 := by omega
  have ha3 : decide ((a : Int) ≥ (ats.length : Int)) = false := by simp; omega
  clear hG hk h16
  go_enter Try.func17, Try.ntmps17
  go_wp2_with fail
  rw [W0.out]
  go_wp2_with fail
  refine CH.out.mono ?_
  rw [KK.out]
  rintro e w1 ⟨rfl, hb1⟩
  have B1 := hid hb1
  obtain ⟨d0, d1, d2⟩ := C3.out _ hb1
  clear hb1 c0 c1 c2
  go_wp2_with fail
  refine (CW.out _ B1.out).mono ?_
  rintro e w2 ⟨v2, rfl, hown, hb2⟩
  have B2 := hid (B0.out.trans (B1.out.trans (hb2.mono B1.out.size) |>.mono hsz0))
  have hs2 := B2.out.size
  have R2 := hid (RdE.of_owns hown (by omega))
  clear hown hb2 d0 d1 d2
  go_wp2_with fail
  refine (AM.out G _ _ R2.out (by omega)).mono ?_
  rintro e w3 ⟨v3, rfl, hown3, hb3⟩
  have O3 := hid (own_mono hown3 hs2)
  have B3 := hid (B2.out.trans (hb3.mono hs2))
  clear hown3 hb3
  go_wp2_with fail
  go_ret2
  exact ⟨_, rfl, O3.out, B3.out⟩

end Go.Proofs.Ytkehelplmipenaa
