/- Texts that belong together, in one file. -/
import Derived.Test.YtdiafhbbmliefaaGreatDoorGTabA
import Derived.Test.YtdiafhbbmliefaaGreatDoorGOrd
import Derived.Test.YtdiafhbbmliefaaGreatDoorGSort
import Derived.Lib.SliceRun
import Derived.StillTailTactics
/- The walk of agree.Sets: the different agree sets with their numbers of pairs. -/
namespace Go.Proofs.YtdiafhbbmliefaaGreatDoor
open Go.RowKit

/-- The cells of a set with a number. -/
abbrev C2 := S × Int
def cC (x : C2) : List Value := [enc x.1, .int .i64 x.2]
theorem cC_length (x : C2) : (cC x).length = 2 := rfl
theorem cC_one (x : C2) : ∀ u ∈ cC x, u.oneCell' = true := by
  intro u hu; simp [cC] at hu; rcases hu with rfl | rfl <;> rfl
theorem cells_newC (w : World) (x : C2) {t : TypeId} : ∀ j u, (cC x)[j]? = some u → (w.alloc (.cells #[.int .u32 (iv x.1), .int .i64 x.2] t)).cell? (Addr.add ⟨w.heap.size, 0, none⟩ j) = some u := by
  intro j u hj
  have hj2 : j < 2 := (List.getElem?_eq_some_iff.1 hj).1
  rcases (show j = 0 ∨ j = 1 by omega) with rfl | rfl
  · simp [cC, enc] at hj; subst hj; simp [Addr.add]
  · simp [cC, enc] at hj; subst hj; simp [Addr.add]
abbrev RdCt (w : World) (v : Value) (xs : List C2) : Prop := RdC cC w v xs
theorem infoCt : (Tryz.prog.info? 95).map (fun i => (i.zero, i.size, i.bytes)) = some (some (.agg #[.int .u32 0, .int .i64 0]), 2, 16) := by kernel_rfl
theorem undCts : Tryz.prog.underlying 56 = some (.slice 95) := by kernel_rfl

theorem own_grown2 {w w' : World} {B b : Nat} {e : TypeId} {size n : Nat} {v : Value} {xs : List Value} (h : w.ownsRow B e size v n xs) (hg : w.grownBy w' (some b)) (hb : b < B) : w'.ownsRow B e size v n xs := by
  refine ⟨h.1, ?_⟩
  rcases h.2 with h' | ⟨g, cap, cur, hv, hgB, hc, rest⟩
  · exact .inl h'
  · exact .inr ⟨g, cap, cur, hv, hgB, (hg.block g (Array.getElem?_eq_some_iff.1 hc).1 (by intro e; cases e; omega)).trans hc, rest⟩

set_option maxRecDepth 100000 in
theorem asets_err (t : T3) (av rv : Value) (w : World) (ht : RdT w av rv t) (hk : tabE2 t ≠ 0) :
    Calls Tryz.prog 15 #[.agg #[.string t.1, av, rv]] w fun e w' => e = .returned (.tuple #[.slice none 0 0, .int .i64 (tabE2 t)]) ∧ Below w.heap.size w w' := by
  have hb0 := below_alloc w (.cells #[.string t.1, av, rv] 48)
  have C3 := cells3 (w := w) (a := .string t.1) (b := av) (c := rv) (t := 48) _ (Below.refl _ _)
  have CH := hid (check_any t av rv _ (ht.below hb0))
  obtain ⟨w0, hw0⟩ : ∃ w0 : World, w.alloc (.cells #[.string t.1, av, rv] 48) = w0 := ⟨_, rfl⟩
  rw [hw0] at hb0 CH C3
  obtain ⟨c0, c1, c2⟩ := C3
  have B0 := hid hb0
  have W0 := hid hw0
  have hne : ((tabE2 t) != (0 : Int)) = true := by simpa using hk
  clear hb0 hw0 hk ht
  generalize tabE2 t = n at *
  obtain ⟨nm, ats, rs⟩ := t
  go_enter Tryz.func15, Tryz.ntmps15
  go_wp2_with fail
  rw [W0.out]
  go_wp2_with fail
  refine CH.out.mono ?_
  rintro e w1 ⟨rfl, hb1⟩
  have B1 := hid (B0.out.trans (hb1.mono B0.out.size))
  clear hb1
  go_wp2_with fail
  go_ret2
  exact ⟨rfl, B1.out⟩

set_option maxHeartbeats 1600000 in
set_option maxRecDepth 100000 in
theorem asets_ok (t : T3) (av rv : Value) (w : World) (ht : RdT w av rv t) (hk : tabE2 t = 0) :
    Calls Tryz.prog 15 #[.agg #[.string t.1, av, rv]] w fun e w' => ∃ v', e = .returned (.tuple #[v', .int .i64 0]) ∧ w'.ownsRow w.heap.size 95 2 v' (cntL (pairsS t.2.2)).length ((cntL (pairsS t.2.2)).flatMap cC) ∧ Below w.heap.size w w' := by
  have hb0 := below_alloc w (.cells #[.string t.1, av, rv] 48)
  have C3 := hid (fun W h => cells3 (w := w) (a := .string t.1) (b := av) (c := rv) (t := 48) W h)
  have T0 := hid (ht.below hb0)
  obtain ⟨w0, hw0⟩ : ∃ w0 : World, w.alloc (.cells #[.string t.1, av, rv] 48) = w0 := ⟨_, rfl⟩
  rw [hw0] at hb0 C3 T0
  have B0 := hid hb0
  have W0 := hid hw0
  have hsz0 := hb0.size
  have CH := hid (fun (W : World) (h : Below w0.heap.size w0 W) => check_any t av rv W (T0.out.below h))
  have CO := hid (fun (W : World) (h : Below w0.heap.size w0 W) => counts_any t av rv W (T0.out.below h) hk)
  have AO := hid (fun (xs : List S) (u : Value) (W : World) (h : RdE enc W u xs) (hh : xs.length < 17592186044416) => aorder_any xs u W h hh)
  have KK := hid hk
  clear hb0 hw0 hk ht
  obtain ⟨nm, ats, rs⟩ := t
  have PL : ∃ G, pairsS (nm, ats, rs).2.2 = G := ⟨_, rfl⟩
  obtain ⟨G, hG⟩ := PL
  rw [hG] at CO ⊢
  clear hG
  obtain ⟨c0, c1, c2⟩ := C3.out _ (Below.refl _ _)
  go_enter Tryz.func15, Tryz.ntmps15
  go_wp2_with fail
  rw [W0.out]
  go_wp2_with fail
  refine (CH.out _ (Below.refl _ _)).mono ?_
  rw [KK.out]
  rintro e w1 ⟨rfl, hb1⟩
  have B1 := hid hb1
  obtain ⟨d0, d1, d2⟩ := C3.out _ hb1
  clear hb1 c0 c1 c2
  go_wp2_with fail
  refine (CO.out _ B1.out).mono ?_
  rintro e w2 ⟨b, ps, rfl, hown, hn, hperm, hb, hb2⟩
  have B2 := hid (B0.out.trans (B1.out.trans (hb2.mono B1.out.size) |>.mono hsz0))
  have hs2 := B2.out.size
  have HC := hid (show ∀ s, cntF ps s = cntF G s from count_perm hperm)
  have HM := hid (show ∀ s, memB ps s = decide (s ∈ G) from fun s => by rw [has_perm hperm]; rfl)
  have HB := hid (show ∀ s, cntF ps s ≤ 40000 from fun s => Nat.le_trans List.count_le_length hn)
  have HO := hid hown
  have hbl := hown.lt
  clear hown hb2 hperm d0 d1 d2
  generalize cntF ps = g at *
  generalize memB ps = pp at *
  generalize ps.length = n at *
  go_wp2_with (at_range; refine wpList_krange (E := cntElems Tryz.prog 2 undI64) (z := 0) (k := 67) rfl _ 75 rfl undU32 undMapC rfl HO.out ?_; intro w3 cnt hrg hcn hb3 hs3)
  go_frame
  have ST := hid (And.intro hrg hb3)
  clear hrg hb3
  go_loopw [6] (fun u wr => ∃ (left : S → Bool) (cnt : Nat) (ks : List S), RngC wr b w2.heap.size n g pp left cnt ∧ wr.ownsRow (w2.heap.size + 1) 67 1 u ks.length (ks.map enc) ∧ Hid (Coll pp left ks) ∧ ks.length + cnt ≤ n ∧ Below w2.heap.size w2 wr ∧ w2.heap.size + 1 ≤ wr.heap.size) (fun _ wr => wr.rangeLeft b w2.heap.size)
  case atStart => exact ⟨pp, cnt, [], ST.out.1, World.ownsRow_nil _ _ _ _, hid (Coll.start pp), by simpa using hcn, ST.out.2, by omega⟩
  case round =>
    obtain ⟨left, cnt1, ks, hrg, hl, CL, hcn1, hnx, hsz⟩ := hrel
    have hLE := hid hrg.left_eq
    go_wp2_with (at_next; refine wpList_knext (E := cntElems Tryz.prog 2 undI64) (z := 0) (k := 67) rfl _ rfl undU32 rfl hrg ?_ ?_)
    · intro hc0 hl0
      have hmem : ∀ s, s ∈ ks ↔ s ∈ G := fun s => by rw [CL.out.done hl0, HM.out]; simp
      have R := hid (RdE.of_owns hl (by omega))
      have OS := hid (fun (ys : List S) (h : IsOrd ys (· ∈ ks)) => ordS_of h hmem)
      have HW := hid (hrg.owns)
      have HN := hid hnx
      clear hl0 hmem hrg hl hnx hLE
      go_wp2_with fail
      refine (AO.out ks _ wr R.out (by omega)).mono ?_
      rintro e w4 ⟨v4, ys, rfl, ho4, hord, hyl, hb4⟩
      have hys := OS.out ys hord
      have M4 := hid (HW.out.below hb4)
      have B4 := hid (HN.out.trans (hb4.mono HN.out.size))
      have R4 := hid (RdE.of_owns ho4 (by omega))
      obtain ⟨yo, ycap, rfl, -, hyc⟩ := R4.out.split
      have YC := hid hyc
      have hs4 := B4.out.size
      have MG := hid (show cntL G = ys.map (fun s => (s, (g s : Int))) by
        unfold cntL; rw [← hys]
        exact List.map_congr_left fun s _ => by rw [HC.out]; rfl)
      have GB := hid (show ∀ s, capN (g s) = g s from fun s => capN_eq (by have := HB.out s; omega))
      clear ho4 hord hb4 hyc hys
      go_wp2_with fail
      go_loopw [8, 31] (fun u i wr => ∃ j : Nat, j ≤ ys.length ∧ i = .int .i64 j ∧ wr.ownsRow w4.heap.size 95 2 u ((ys.take j).map fun s => (s, (g s : Int))).length (((ys.take j).map fun s => (s, (g s : Int))).flatMap cC) ∧ Below w4.heap.size w4 wr) (fun _ i _ => ys.length - (intOf i).toNat)
      case atStart => exact ⟨0, Nat.zero_le _, rfl, World.ownsRow_nil _ _ _ _, Below.refl _ _⟩
      case round =>
        obtain ⟨j, hj, rfl, hown, hnx⟩ := hrel
        have hsz' := hnx.size
        have hll : ((ys.take j).map fun s => (s, (g s : Int))).length ≤ j := by simp; omega
        by_cases hjl : j < ys.length
        · obtain ⟨s, hs⟩ := get_some hjl
          obtain ⟨yb, yoff, rfl, hyc⟩ := YC.out j s hs
          have ec : wr.cell? ⟨yb, yoff + j, none⟩ = some (.int .u32 (iv s)) := hyc wr hnx
          have N := hid (show (ys.take (j + 1)).map (fun s => (s, (g s : Int))) = (ys.take j).map (fun s => (s, (g s : Int))) ++ [(s, (g s : Int))] by rw [take_next hs, List.map_append]; rfl)
          have M5 := hid (M4.out.below hnx)
          have GS := hid (GB.out s)
          clear hyc hs
          generalize (ys.take j).map (fun s => (s, (g s : Int))) = out at *
          go_wp2_with (first | (at_lookup; refine wpList_mlook (E := cntElems Tryz.prog 2 undI64) (z := 0) (f := g) (n := n) (b := b) (k := 67) rfl _ _ 75 rfl undU32 undMapC (zeroC _) rfl M5.out.toM s rfl ?_; show wpList _ _ _ _ (Act.put _ _ (.int .i64 (capN (g s)))) _; rw [GS.out]) | (at_builtin; refine wpList_pushC rfl _ _ 56 rfl w4.heap.size 95 (.agg #[.int .u32 0, .int .i64 0]) 2 16 undCts infoCt rfl (by decide) (by decide) cC cC_length cC_one _ out rfl (hown.alloc _) ⟨wr.heap.size, 0, none⟩ (s, (g s : Int)) rfl (cells_newC _ (s, (g s : Int))) (by omega) (by simp; omega) ?_))
          intro v' w5 hown' hgrow
          have hb5 : Below w4.heap.size w4 w5 := below_push hnx hsz' hown hgrow
          clear hgrow hown hnx ec
          go_wp2_with fail
          go_roundw
          case rel => exact ⟨j + 1, by omega, by go_num, by rw [N.out]; simpa using hown', hb5⟩
          case measure => simp [intOf]; omega
        · rw [take_all hjl, ← MG.out] at hown
          have hs5 : w.heap.size ≤ w4.heap.size := by omega
          have OO := hid (own_mono hown hs5)
          have BB := hid (B2.out.trans ((B4.out.trans (hnx.mono hs4)).mono hs2))
          clear hown hnx
          go_wp2_with fail
          go_ret2
          exact ⟨_, rfl, OO.out, BB.out⟩
    · intro s c w4 cnt2 hls hps hrg4 hlt hg4 hs4 hen
      have hl4 := own_grown2 hl hg4 (by omega)
      have hnx4 : Below w2.heap.size w2 w4 := hnx.grown hg4 hnx.size (fun j hj => by cases hj; exact Nat.le_refl _)
      have CL4 := hid (CL.out.next hls hps)
      have RG4 := hid hrg4
      have HS4 := hid hs4
      have hsz4 : w2.heap.size + 1 ≤ w4.heap.size := by omega
      clear hl hnx hrg hg4 hrg4 hs4
      go_wp2_with (at_builtin; go_must (refine wpList_push rfl _ _ 53 rfl (w2.heap.size + 1) 67 (.int .u32 0) 4 undSets infoSet rfl (by decide) enc (fun _ => rfl) _ ks rfl (hl4.alloc _) ⟨w4.heap.size, 0, none⟩ s rfl (by simp [enc]) (by omega) (by simp; omega) ?_))
      intro v' w5 hown5 hgrow
      have RG5 := hid ((RG4.out.below (below_alloc w4 _)).kept hgrow (fun e => by have := (hl4.lt _ e.symm).1; omega) (fun e => by have := (hl4.lt _ e.symm).1; omega))
      have hb5 := hid (below_push hnx4 hnx4.size (own_mono hl4 (by omega)) hgrow)
      have hs5 := hgrow.size
      simp at hs5
      have ho5 := hid hown5
      have MS := hid (show wr.rangeLeft b w2.heap.size = cnt1 ∧ w5.rangeLeft b w2.heap.size = cnt2 from ⟨hLE.out, RG5.out.left_eq⟩)
      clear hgrow hl4 hnx4 hown5 hen hLE
      go_wp2_with fail
      go_roundw
      case rel => exact ⟨_, cnt2, ks ++ [s], RG5.out, by simpa using ho5.out, CL4, by simp; omega, hb5.out, by omega⟩
      case measure => rw [MS.out.1, MS.out.2]; exact hlt

end Go.Proofs.YtdiafhbbmliefaaGreatDoor


/- The walk of agree.without: the agree sets without an attribute. -/
namespace Go.Proofs.YtdiafhbbmliefaaGreatDoor
open Go.RowKit




end Go.Proofs.YtdiafhbbmliefaaGreatDoor


/- slices.DeleteFunc over a row of the call's own at a function value that makes memory, and attrset's keep, Minimal and Maximal. -/
namespace Go.Proofs.YtdiafhbbmliefaaGreatDoor
open Go.RowKit

theorem own_take {w : World} {B g n cap k : Nat} {e : TypeId} {xs : List Value} (h : w.ownsRow B e 1 (.slice (some ⟨g, 0, none⟩) n cap) n xs) (hk : k ≤ n) : w.ownsRow B e 1 (.slice (some ⟨g, 0, none⟩) k cap) k (xs.take k) := by
  have hl : xs.length = n * 1 := h.1
  refine ⟨by rw [List.length_take]; omega, ?_⟩
  rcases h.2 with ⟨h1, _⟩ | ⟨g', cap', cur, hv, hB, hg, hnc, hcm, hcs, htake⟩
  · cases h1
  · simp only [Value.slice.injEq, Option.some.injEq, Addr.mk.injEq] at hv
    obtain ⟨⟨rfl, -, -⟩, -, rfl⟩ := hv
    refine .inr ⟨g, cap, cur, rfl, hB, hg, by omega, hcm, hcs, ?_⟩
    rw [← htake, List.take_take, Nat.mul_one, Nat.mul_one, Nat.min_eq_left hk]
theorem own_setCells {B g n cap : Nat} {e : TypeId} : ∀ (vs : List Value) (o : Nat) (w : World) (xs : List Value), w.ownsRow B e 1 (.slice (some ⟨g, 0, none⟩) n cap) n xs → ∃ xs', (w.setCells g o vs).ownsRow B e 1 (.slice (some ⟨g, 0, none⟩) n cap) n xs' ∧ xs'.take o = xs.take o := by
  intro vs
  induction vs with
  | nil => intro o w xs h; exact ⟨xs, h, rfl⟩
  | cons u vs ih =>
    intro o w xs h
    obtain ⟨xs', h1, h2⟩ := ih (o + 1) _ _ (h.stored o u).1
    refine ⟨xs', h1, ?_⟩
    have := congrArg (List.take o) h2
    rw [List.take_take, List.take_take, Nat.min_eq_left (by omega)] at this
    rw [this, List.take_set_of_le (Nat.le_refl _)]

theorem below_cells {B : Nat} {a : World} (b : Nat) (hb : B ≤ b) : ∀ (vs : List Value) (o : Nat) {w : World}, Below B a w → Below B a (w.setCells b o vs) := by
  intro vs
  induction vs with
  | nil => intro o w h; exact h
  | cons u vs ih => intro o w h; exact ih (o + 1) (h.setCell (p := ⟨b, o, none⟩) hb u)

def IdxPost (p : S → Bool) (xs : List S) (w : World) (e : Ending) (w' : World) : Prop :=
  Below w.heap.size w w' ∧ ((e = .returned (.int .i64 (-1)) ∧ xs.any p = false) ∨ ∃ k, k < xs.length ∧ e = .returned (.int .i64 (k : Int)) ∧ (xs.take k).any p = false ∧ ∀ x, xs[k]? = some x → p x = true)
/-- IndexFunc at a function value that may make memory. -/
theorem indexFuncM_any (g : Nat) (cb : Array Value) (p : S → Bool) (xs : List S) (v : Value) (w w0 : World) (hb : Below w0.heap.size w0 w) (hv : RdE enc w v xs)
    (eg : ∀ (args : Array Value) (w : World), (callFunc g args).run Tryz.prog w = .ok (.enter g args) w)
    (hg : ∀ (x : S) (W : World), Below w0.heap.size w0 W → Calls Tryz.prog g (#[enc x] ++ cb) W fun e w' => e = .returned (.bool (p x)) ∧ Below W.heap.size W w') :
    Calls Tryz.prog 87 #[v, .func (.func g) #[] cb] w (IdxPost p xs w) := by
  obtain ⟨ao, cap, rfl, h2, hc⟩ := hv.split
  have HC := hid hc
  unfold enc at hg
  have G := hid hg
  have HB := hid hb
  have hs0 := hb.size
  clear hg hc hv hb
  go_enter Tryz.func87, Tryz.ntmps87
  go_wp2
  go_loopw [5, 8] (fun _ i wr => ∃ k : Nat, k ≤ xs.length ∧ i = .int .i64 k ∧ Hid ((xs.take k).any p = false) ∧ Below w.heap.size w wr) (fun _ i _ => xs.length - (intOf i).toNat)
  case atStart => exact ⟨0, Nat.zero_le _, rfl, hid rfl, Below.refl _ _⟩
  case round =>
    obtain ⟨k, hk, rfl, H, hnx⟩ := hrel
    have NX := hid hnx
    have hsz := hnx.size
    clear hnx
    by_cases hlt : k < xs.length
    · obtain ⟨x, hx⟩ := get_some hlt
      obtain ⟨b, off, rfl, hd⟩ := HC.out k x hx
      have e1 : wr.cell? ⟨b, off + k, none⟩ = some (.int .u32 (iv x)) := hd wr NX.out
      have X := hid hx
      have G1 := hid (G.out x wr (HB.out.trans (NX.out.mono hs0)))
      clear hd hx
      cases hp : p x with
      | true =>
        rw [hp] at G1
        have P1 := hid hp
        clear hp
        go_wp2_with (go_at_fn g; refine G1.out.mono ?_; rintro e w2 ⟨rfl, hb2⟩)
        have B2 := hid (NX.out.trans (hb2.mono hsz))
        clear hb2
        go_ret
        exact ⟨B2.out, .inr ⟨k, hlt, rfl, H.out, fun y hy => by rw [X.out] at hy; cases hy; exact P1.out⟩⟩
      | false =>
        rw [hp] at G1
        have P1 := hid hp
        clear hp
        go_wp2_with (go_at_fn g; refine G1.out.mono ?_; rintro e w2 ⟨rfl, hb2⟩)
        have B2 := hid (NX.out.trans (hb2.mono hsz))
        clear hb2
        go_roundw
        case rel => exact ⟨k + 1, by omega, by go_num, hid (none_next X.out P1.out H.out), B2.out⟩
        case measure => simp [intOf]; omega
    · go_wp2
      go_ret
      exact ⟨NX.out, .inl ⟨rfl, any_end H.out hlt⟩⟩

/-- The row while DeleteFunc is at its work. -/
structure Del (p : S → Bool) (xs : List S) (i j : Nat) (dk : List S) : Prop where
  size : dk.length = xs.length
  lt : i < j
  low : dk.take i = (xs.take j).filter (fun x => !p x)
  high : ∀ t, j ≤ t → dk[t]? = xs[t]?
theorem none_filter {p : S → Bool} {xs : List S} (h : xs.any p = false) : xs.filter (fun x => !p x) = xs := by
  rw [List.filter_eq_self]
  intro x hx
  rw [List.any_eq_false] at h
  simp [h x hx]
theorem Del.start {p : S → Bool} {xs : List S} {k : Nat} {x : S} (hx : xs[k]? = some x) (h : (xs.take k).any p = false) (hp : p x = true) : Del p xs k (k + 1) xs :=
  ⟨rfl, by omega, by rw [take_next hx, List.filter_append, none_filter h]; simp [hp], fun _ _ => rfl⟩
theorem Del.keep {p : S → Bool} {xs dk : List S} {i j : Nat} {x : S} (h : Del p xs i j dk) (hx : xs[j]? = some x) (hp : p x = false) : Del p xs (i + 1) (j + 1) (dk.set i x) := by
  have hj := (List.getElem?_eq_some_iff.1 hx).1
  have hi : i < dk.length := by have := h.size; have := h.lt; omega
  refine ⟨by rw [List.length_set]; exact h.size, by have := h.lt; omega, ?_, fun t ht => ?_⟩
  · rw [take_next hx, List.filter_append, ← h.low, take_next (x := x) (by rw [List.getElem?_set_self hi]), List.take_set_of_le (Nat.le_refl _)]
    simp [hp]
  · rw [List.getElem?_set_ne (by have := h.lt; omega)]
    exact h.high t (by omega)
theorem Del.skip {p : S → Bool} {xs dk : List S} {i j : Nat} {x : S} (h : Del p xs i j dk) (hx : xs[j]? = some x) (hp : p x = true) : Del p xs i (j + 1) dk :=
  ⟨h.size, by have := h.lt; omega, by rw [take_next hx, List.filter_append, ← h.low]; simp [hp], fun t ht => h.high t (by omega)⟩

set_option maxHeartbeats 1600000 in
theorem deleteFunc_any (g : Nat) (cb : Array Value) (p : S → Bool) (xs : List S) (v : Value) (w w0 : World) (hb : Below w0.heap.size w0 w) (hown : w.ownsRow w0.heap.size 67 1 v xs.length (xs.map enc)) (hl : xs.length < 17592186044416)
    (eg : ∀ (args : Array Value) (w : World), (callFunc g args).run Tryz.prog w = .ok (.enter g args) w)
    (hg : ∀ (x : S) (W : World), Below w0.heap.size w0 W → Calls Tryz.prog g (#[enc x] ++ cb) W fun e w' => e = .returned (.bool (p x)) ∧ Below W.heap.size W w') :
    Calls Tryz.prog 128 #[v, .func (.func g) #[] cb] w fun e w' => ∃ v', e = .returned v' ∧ w'.ownsRow w0.heap.size 67 1 v' (xs.filter (fun x => !p x)).length ((xs.filter (fun x => !p x)).map enc) ∧ Below w0.heap.size w0 w' := by
  have IX := hid (indexFuncM_any g cb p xs v w w0 hb (RdE.of_owns hown (by omega)) eg hg)
  unfold enc at hg
  have G := hid hg
  have HB := hid hb
  have hs0 := hb.size
  have HO := hid hown
  obtain ⟨ao, cap, rfl, -⟩ := (RdE.of_owns hown (by omega)).split
  clear hg hb hown
  go_enter Tryz.func128, Tryz.ntmps128
  go_wp2_with fail
  refine IX.out.mono ?_
  rintro e w1 ⟨hb1, ⟨rfl, hnone⟩ | ⟨k0, hk0, rfl, hfirst, hhit⟩⟩
  · have NF := hid (none_filter hnone)
    have HO1 := hid (own_below HO.out hb1)
    have B1 := hid (HB.out.trans (hb1.mono hs0))
    clear hnone hb1
    go_wp2_with fail
    go_ret
    exact ⟨_, rfl, by rw [NF.out]; exact HO1.out, B1.out⟩
  · obtain ⟨x0, hx0⟩ := get_some hk0
    have D0 := hid (Del.start hx0 hfirst (hhit x0 hx0))
    obtain ⟨gb, gcap, hform⟩ : ∃ gb gcap, Value.slice ao xs.length cap = .slice (some ⟨gb, 0, none⟩) xs.length gcap := by
      rcases HO.out.2 with ⟨h1, h2⟩ | ⟨g', cap', cur, hv, _⟩
      · omega
      · exact ⟨g', cap', hv⟩
    simp only [Value.slice.injEq] at hform
    obtain ⟨rfl, -, rfl⟩ := hform
    have HO1 := hid (own_below HO.out hb1)
    have B1 := hid (HB.out.trans (hb1.mono hs0))
    have hkne : ((k0 : Int) == -1) = false := beq_eq_false_iff_ne.2 (by omega)
    have hgb := HO1.out.lt gb rfl
    have hcapn : xs.length ≤ cap := by
      rcases HO.out.2 with ⟨h1, _⟩ | ⟨g', cap', cur, hv, _, _, hnc, _⟩
      · cases h1
      · simp only [Value.slice.injEq] at hv; omega
    clear hfirst hhit hx0 hb1
    have k00 : (0 : Int) ≤ (k0 : Int) := by omega
    go_wp2_with fail
    go_loopw [5, 6] (fun i j wr => ∃ (a b : Nat) (dk : List S), b ≤ xs.length ∧ i = .int .i64 a ∧ j = .int .i64 b ∧ Hid (Del p xs a b dk) ∧ wr.ownsRow w0.heap.size 67 1 (.slice (some ⟨gb, 0, none⟩) xs.length cap) xs.length (dk.map enc) ∧ Below w0.heap.size w0 wr) (fun _ j _ => xs.length - (intOf j).toNat)
    case atStart => exact ⟨k0, k0 + 1, xs, by omega, rfl, by go_num, D0, HO1.out, B1.out⟩
    case round =>
      obtain ⟨a, b, dk, hbl, rfl, rfl, D, hown, hnx⟩ := hrel
      have hsz := hnx.size
      have hab := D.out.lt
      have hdl := D.out.size
      have b0 : (0 : Int) ≤ (b : Int) := by omega
      have a0 : (0 : Int) ≤ (a : Int) := by omega
      by_cases hlt : b < xs.length
      · obtain ⟨x, hx⟩ := get_some hlt
        have hxd : dk[b]? = some x := by rw [D.out.high b (Nat.le_refl _), hx]
        have e1 : wr.cell? ⟨gb, b, none⟩ = some (.int .u32 (iv x)) := by
          rw [hown.cellAt b (by omega), List.getElem?_map, hxd]; rfl
        have G1 := hid (G.out x wr hnx)
        have HO2 := hid hown
        have NX := hid hnx
        cases hp : p x with
        | true =>
          rw [hp] at G1
          have D2 := hid (D.out.skip hx hp)
          clear hp hown hnx hx hxd
          go_wp2_with (go_at_fn g; refine G1.out.mono ?_; rintro e w2 ⟨rfl, hb2⟩)
          have HO3 := hid (own_below HO2.out hb2)
          have NX3 := hid (NX.out.trans (hb2.mono hsz))
          clear hb2
          go_roundw
          case rel => exact ⟨a, b + 1, dk, by omega, rfl, by go_num, D2, HO3.out, NX3.out⟩
          case measure => simp [intOf]; omega
        | false =>
          rw [hp] at G1
          have D2 := hid (D.out.keep hx hp)
          obtain ⟨y, hy⟩ := get_some (show a < dk.length by omega)
          have OY := hid (show (dk.map enc)[a]? = some (.int .u32 (iv y)) by rw [List.getElem?_map, hy]; rfl)
          clear hp hown hnx hx hxd hy
          go_wp2_with (go_at_fn g; refine G1.out.mono ?_; rintro e w2 ⟨rfl, hb2⟩; have HO3 := hid (own_below HO2.out hb2); have NX3 := hid (NX.out.trans (hb2.mono hsz)); clear hb2; have hcell : w2.cell? ⟨gb, a, none⟩ = some (.int .u32 (iv y)) := (HO3.out.cellAt a (by omega)).trans OY.out; have hfz : w2.frozen? ⟨gb, a, none⟩ = false := HO3.out.frozenAt _)
          have ST := HO3.out.stored a (.int .u32 (iv x))
          have S1 := hid (show (w2.setCell ⟨gb, a, none⟩ (.int .u32 (iv x))).ownsRow w0.heap.size 67 1 (.slice (some ⟨gb, 0, none⟩) xs.length cap) xs.length ((dk.set a x).map enc) by rw [List.map_set]; exact ST.1)
          have S2 := hid (NX3.out.grown ST.2 NX3.out.size (fun j hj => by cases hj; exact hgb.1))
          clear ST hcell hfz
          go_roundw
          case rel => exact ⟨a + 1, b + 1, dk.set a x, by omega, by go_num, by go_num, D2, S1.out, S2.out⟩
          case measure => simp [intOf]; omega
      · have hbn : b = xs.length := by omega
        have han : a < xs.length := by omega
        have hlow := D.out.low
        rw [hbn, List.take_of_length_le (Nat.le_refl _)] at hlow
        have hfl : (xs.filter (fun x => !p x)).length = a := by rw [← hlow, List.length_take]; omega
        have hcl : ∀ ty, (Builtin.clear_ #[53] ty #[.slice (some ⟨gb, a, none⟩) (xs.length - a) (cap - a)]).run Tryz.prog wr = .ok (.tuple #[]) (wr.setCells gb a (List.replicate (xs.length - a) (.int .u32 0))) := fun ty => Lib.run_clear_slice wr _ _ ty _ undSets (fun w => Tryz.zeroValue67 w) rfl rfl gb a _ _ (by omega)
          (fun t ht => by
            obtain ⟨y, hy⟩ := get_some (show a + t < dk.length by omega)
            rw [hown.cellAt (a + t) (by omega), List.getElem?_map, hy]; rfl)
          (fun t _ => hown.frozenAt _)
        obtain ⟨xs', h1, h2⟩ := own_setCells (List.replicate (xs.length - a) (.int .u32 0)) a wr _ hown
        have h3 := own_take h1 (k := a) (by omega)
        have FIN := hid (show (wr.setCells gb a (List.replicate (xs.length - a) (.int .u32 0))).ownsRow w0.heap.size 67 1 (.slice (some ⟨gb, 0, none⟩) a cap) (xs.filter (fun x => !p x)).length ((xs.filter (fun x => !p x)).map enc) by
          rw [h2, ← List.map_take, hlow] at h3
          rw [hfl]; exact h3)
        have BF := hid (below_cells gb hgb.1 (List.replicate (xs.length - a) (.int .u32 0)) a hnx)
        have D3 := hid D.out
        clear hlow hfl h1 h2 h3 hown hnx D hbn hdl
        go_wp2_with fail
        go_ret
        exact ⟨_, rfl, FIN.out, BF.out⟩

/-! attrset's keep, Minimal, Maximal. -/
theorem amaximal1_any (a b : S) (w : World) : Calls Tryz.prog 99 #[enc a, enc b] w fun e w' => e = .returned (.bool (upR a b)) ∧ w = w' := by
  unfold enc upR
  go_enter Tryz.func99, Tryz.ntmps99
  go_wp2
  go_ret
  exact ⟨rfl, rfl⟩

/-- The inner test of keep. -/
theorem keep11_any (f : Nat) (r : S → S → Bool) (a b : S) (ba bw : Nat) (w : World) (hca : w.cell? ⟨ba, 0, none⟩ = some (enc a)) (hcw : w.cell? ⟨bw, 0, none⟩ = some (.func (.func f) #[] #[]))
    (eg : ∀ (args : Array Value) (w : World), (callFunc f args).run Tryz.prog w = .ok (.enter f args) w)
    (hf : ∀ (a b : S) (w : World), Calls Tryz.prog f #[enc a, enc b] w fun e w' => e = .returned (.bool (r a b)) ∧ w = w') :
    Calls Tryz.prog 130 (#[enc b] ++ #[.pointer (some ⟨ba, 0, none⟩), .pointer (some ⟨bw, 0, none⟩)]) w fun e w' => e = .returned (.bool (a != b && r a b)) ∧ w = w' := by
  show Calls Tryz.prog 130 #[enc b, .pointer (some ⟨ba, 0, none⟩), .pointer (some ⟨bw, 0, none⟩)] w _
  have C := hid (hf a b w)
  unfold enc at hca C ⊢
  clear hf
  cases hq : (a != b) with
  | false =>
    rw [Bool.false_and]
    go_enter Tryz.func130, Tryz.ntmps130
    go_wp2
    go_ret
    exact ⟨rfl, rfl⟩
  | true =>
    rw [Bool.true_and]
    go_enter Tryz.func130, Tryz.ntmps130
    go_wp2_with (go_at_fn f; refine C.out.mono ?_; rintro e w' ⟨rfl, rfl⟩)
    go_ret
    exact ⟨rfl, rfl⟩
theorem keep1_any (f : Nat) (r : S → S → Bool) (ys : List S) (a : S) (vy : Value) (bl bw : Nat) (w : World) (hr : RdE enc w vy ys) (hcl : w.cell? ⟨bl, 0, none⟩ = some vy) (hcw : w.cell? ⟨bw, 0, none⟩ = some (.func (.func f) #[] #[]))
    (eg : ∀ (args : Array Value) (w : World), (callFunc f args).run Tryz.prog w = .ok (.enter f args) w)
    (hf : ∀ (a b : S) (w : World), Calls Tryz.prog f #[enc a, enc b] w fun e w' => e = .returned (.bool (r a b)) ∧ w = w') :
    Calls Tryz.prog 129 (#[enc a] ++ #[.pointer (some ⟨bl, 0, none⟩), .pointer (some ⟨bw, 0, none⟩)]) w fun e w' => e = .returned (.bool (ys.any fun b => a != b && r a b)) ∧ Below w.heap.size w w' := by
  show Calls Tryz.prog 129 #[enc a, .pointer (some ⟨bl, 0, none⟩), .pointer (some ⟨bw, 0, none⟩)] w _
  have hb := below_alloc w (.cells #[enc a] 67)
  have hcw' := (hb.cell (p := ⟨bw, 0, none⟩) (World.block_lt_of_cell? _ _ hcw)).trans hcw
  have G := hid (containsFunc_any 130 #[.pointer (some ⟨w.heap.size, 0, none⟩), .pointer (some ⟨bw, 0, none⟩)] (fun b => a != b && r a b) ys vy _ (hr.below hb)
    (enters _ _ _ Tryz.func130 (by kernel_rfl) rfl) (fun b => keep11_any f r a b _ bw _ cell_new hcw' eg hf))
  obtain ⟨ao, cap, rfl, -⟩ := hr
  have hcl' := (hb.cell (p := ⟨bl, 0, none⟩) (World.block_lt_of_cell? _ _ hcl)).trans hcl
  unfold enc at hb G hcl' hcw' ⊢
  clear hcl hcw hf eg
  go_enter Tryz.func129, Tryz.ntmps129
  go_wp2_with fail
  refine G.out.mono ?_
  rintro e w2 ⟨rfl, rfl⟩
  go_wp2_with fail
  go_ret
  exact ⟨rfl, hb⟩

set_option maxHeartbeats 800000 in
theorem keep_any (f : Nat) (r : S → S → Bool) (xs : List S) (v : Value) (w : World) (hv : RdE enc w v xs) (h44 : xs.length < 17592186044416)
    (eg : ∀ (args : Array Value) (w : World), (callFunc f args).run Tryz.prog w = .ok (.enter f args) w)
    (hf : ∀ (a b : S) (w : World), Calls Tryz.prog f #[enc a, enc b] w fun e w' => e = .returned (.bool (r a b)) ∧ w = w') :
    Calls Tryz.prog 98 #[v, .func (.func f) #[] #[]] w fun e w' => ∃ v', e = .returned v' ∧ w'.ownsRow w.heap.size 67 1 v' (keepS r xs).length ((keepS r xs).map enc) ∧ Below w.heap.size w w' := by
  have hb0 := below_alloc w (.cells #[.func (.func f) #[] #[]] 148)
  have CO := hid (aorder_any xs v _ (hv.below hb0) h44)
  have hcw0 : (w.alloc (.cells #[.func (.func f) #[] #[]] 148)).cell? ⟨w.heap.size, 0, none⟩ = some (.func (.func f) #[] #[]) := by simp
  obtain ⟨w0, hw0⟩ : ∃ w0 : World, w.alloc (.cells #[.func (.func f) #[] #[]] 148) = w0 := ⟨_, rfl⟩
  rw [hw0] at hb0 CO hcw0
  have B0 := hid hb0
  have W0 := hid hw0
  have hs0 := hb0.size
  obtain ⟨ao, cap, rfl, -⟩ := hv
  clear hb0 hw0
  go_enter Tryz.func98, Tryz.ntmps98
  go_wp2_with fail
  rw [W0.out]
  go_wp2_with fail
  refine CO.out.mono ?_
  rintro e w1 ⟨v1, ys, rfl, hown, hord, hyl, hb1⟩
  have hys := ordS_of hord (fun _ => Iff.rfl)
  have KS := hid (show keepS r xs = ys.filter (fun a => !ys.any fun b => a != b && r a b) by unfold keepS; rw [← hys])
  have R1 := RdE.of_owns hown (by omega)
  obtain ⟨yo, ycap, rfl, -⟩ := R1.split
  have hcw1 : w1.cell? ⟨w.heap.size, 0, none⟩ = some (.func (.func f) #[] #[]) := (hb1.cell (p := ⟨w.heap.size, 0, none⟩) (World.block_lt_of_cell? _ _ hcw0)).trans hcw0
  have hb2 := below_alloc w1 (.cells #[.slice yo ys.length ycap] 53)
  have hcl2 : (w1.alloc (.cells #[.slice yo ys.length ycap] 53)).cell? ⟨w1.heap.size, 0, none⟩ = some (.slice yo ys.length ycap) := by simp
  have hcw2 := (hb2.cell (p := ⟨w.heap.size, 0, none⟩) (World.block_lt_of_cell? _ _ hcw1)).trans hcw1
  have R2 := R1.below hb2
  have B1 := hid (B0.out.trans (hb1.mono hs0))
  have B2 := hid (B1.out.trans (hb2.mono B1.out.size))
  have CL := hid (clone_any ys _ _ R2 (by omega))
  obtain ⟨w2, hw2⟩ : ∃ w2 : World, w1.alloc (.cells #[.slice yo ys.length ycap] 53) = w2 := ⟨_, rfl⟩
  rw [hw2] at hcl2 hcw2 R2 B2 CL
  have W2 := hid hw2
  have K1 := hid (fun (a : S) (W : World) (h : Below w2.heap.size w2 W) => keep1_any f r ys a _ w1.heap.size w.heap.size W (R2.below h) ((h.cell (p := ⟨w1.heap.size, 0, none⟩) (World.block_lt_of_cell? _ _ hcl2)).trans hcl2) ((h.cell (p := ⟨w.heap.size, 0, none⟩) (World.block_lt_of_cell? _ _ hcw2)).trans hcw2) eg hf)
  have hs2 := B2.out.size
  clear hown hord hys R1 hcw1 hb2 hb1 hw2 hcw2 R2 hcw0 hf eg
  go_wp2_with fail
  rw [W2.out]
  go_wp2_with fail
  refine CL.out.mono ?_
  rintro e w3 ⟨v3, rfl, hown3, hb3⟩
  have DF := hid (deleteFunc_any 129 #[.pointer (some ⟨w1.heap.size, 0, none⟩), .pointer (some ⟨w.heap.size, 0, none⟩)] (fun a => ys.any fun b => a != b && r a b) ys v3 w3 w2 hb3 hown3 (by omega) (enters _ _ _ Tryz.func129 (by kernel_rfl) rfl) K1.out)
  clear hown3 hb3
  go_wp2_with fail
  refine DF.out.mono ?_
  rintro e w4 ⟨v4, rfl, hown4, hb4⟩
  rw [← KS.out] at hown4
  have O4 := hid (own_mono hown4 hs2)
  have B4 := hid (B2.out.trans (hb4.mono hs2))
  clear hown4 hb4
  go_wp2_with fail
  go_ret
  exact ⟨_, rfl, O4.out, B4.out⟩

theorem amaximal_any (xs : List S) (v : Value) (w : World) (hv : RdE enc w v xs) (h44 : xs.length < 17592186044416) :
    Calls Tryz.prog 58 #[v] w fun e w' => ∃ v', e = .returned v' ∧ w'.ownsRow w.heap.size 67 1 v' (keepS upR xs).length ((keepS upR xs).map enc) ∧ Below w.heap.size w w' := by
  have C := hid (keep_any 99 upR xs v w hv h44 (enters _ _ _ Tryz.func99 (by kernel_rfl) rfl) amaximal1_any)
  obtain ⟨ao, cap, rfl, -⟩ := hv
  go_enter Tryz.func58, Tryz.ntmps58
  go_wp2_with fail
  refine C.out.mono ?_
  rintro e w1 ⟨v1, rfl, hown, hb1⟩
  have O1 := hid hown
  have B1 := hid hb1
  clear hown hb1
  go_wp2_with fail
  go_ret
  exact ⟨_, rfl, O1.out, B1.out⟩

end Go.Proofs.YtdiafhbbmliefaaGreatDoor


/- The walks of drossref02's Minimal and Maximal. -/
namespace Go.Proofs.YtdiafhbbmliefaaGreatDoor
open Go.RowKit




end Go.Proofs.YtdiafhbbmliefaaGreatDoor


/- The walks of the reference's Sets and without, and of Maximal and Differences. -/
namespace Go.Proofs.YtdiafhbbmliefaaGreatDoor
open Go.RowKit










end Go.Proofs.YtdiafhbbmliefaaGreatDoor


/- The walks of Differences, of agree and of the reference. -/
namespace Go.Proofs.YtdiafhbbmliefaaGreatDoor
open Go.RowKit




end Go.Proofs.YtdiafhbbmliefaaGreatDoor

