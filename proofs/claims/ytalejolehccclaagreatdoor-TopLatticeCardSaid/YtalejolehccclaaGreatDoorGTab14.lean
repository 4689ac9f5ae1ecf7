/- Texts that belong together, in one file. -/
import Derived.Test.YtalejolehccclaaGreatDoorGTabA
import Derived.Test.YtalejolehccclaaGreatDoorGOrd
import Derived.Test.YtalejolehccclaaGreatDoorGSort
import Derived.Lib.SliceRun
import Derived.StillTailTactics
/- The walk of agree.Sets: the different agree sets with their numbers of pairs. -/
namespace Go.Proofs.YtalejolehccclaaGreatDoor
open Go.RowKit

abbrev C2 := S × Int
def cC (x : C2) : List Value := [enc x.1, .int .i64 x.2]
theorem cC_length (x : C2) : (cC x).length = 2 := rfl
abbrev RdCt (w : World) (v : Value) (xs : List C2) : Prop := RdC cC w v xs

theorem own_grown2 {w w' : World} {B b : Nat} {e : TypeId} {size n : Nat} {v : Value} {xs : List Value} (h : w.ownsRow B e size v n xs) (hg : w.grownBy w' (some b)) (hb : b < B) : w'.ownsRow B e size v n xs := by
 refine ⟨h.1, ?_⟩
 rcases h.2 with h' | ⟨g, cap, cur, hv, hgB, hc, rest⟩
 ·exact .inl h'
 ·exact .inr ⟨g, cap, cur, hv, hgB, (hg.block g (Array.getElem?_eq_some_iff.1 hc).1 (by intro e; cases e; omega)).trans hc, rest⟩

end Go.Proofs.YtalejolehccclaaGreatDoor

/- The walk of agree.without: the agree sets without an attribute. -/
namespace Go.Proofs.YtalejolehccclaaGreatDoor
open Go.RowKit

theorem bit_zero (s : S) (k : Nat) : (s >>> k &&& 1#32 == 0#32) = !s.getLsbD k := by
 have h := bit_test s k
 have h1 : (1 : Int) = iv 1#32 := by decide
 rw [h1, iv_beq] at h
 have h2 : s >>> k &&& 1#32 = 0#32 ∨ s >>> k &&& 1#32 = 1#32 := by
  cases hb : s.getLsbD k with
  | true => rw [hb] at h; exact .inr (by simpa using h)
  | false =>
   refine .inl ?_
   apply BitVec.eq_of_getLsbD_eq
   intro i hi
   cases i with
   | zero => simpa using hb
   | succ i => simp [BitVec.getLsbD_one]
 rw [<- h]
 rcases h2 with e | e <;> rw [e] <;> decide
def arityE (t : T3) (a : Int) : Int := if tabE2 t ≠ 0 then tabE2 t else if a < 0 ∨ (t.2.1.length : Int) <= a then 6 else 0
theorem arityE_ok {t : T3} {a : Int} (h : arityE t a = 0) : tabE2 t = 0 /\ ∃ k : Nat, a = k /\ k < t.2.1.length := by
 unfold arityE at h
 split at h
 ·rename_i h1; exact absurd h h1
 ·rename_i h1
  split at h
  ·exact absurd h (by decide)
  ·rename_i h2
   exact ⟨by simpa using h1, a.toNat, by omega, by omega⟩

set_option maxHeartbeats 800000 in
set_option maxRecDepth 100000 in
theorem without_err (t : T3) (av rv : Value) (a : Int) (w : World) (ht : RdT w av rv t) (hk : arityE t a ≠ 0) :
  Calls Tryz.prog 57 #[.agg #[.string t.1, av, rv], .int .i64 a] w fun e w' => e = .returned (.tuple #[.slice none 0 0, .int .i64 (arityE t a)]) /\ Below w.heap.size w w' := by
 have hb0 := below_alloc w (.cells #[.string t.1, av, rv] 32)
 have C3 := hid (fun W h => cells3 (w := w) (a := .string t.1) (b := av) (c := rv) (t := 32) W h)
 have CH := hid (check_any t av rv _ (ht.below hb0))
 obtain ⟨w0, hw0⟩ : ∃ w0 : World, w.alloc (.cells #[.string t.1, av, rv] 32) = w0 := ⟨_, rfl⟩
 rw [hw0] at hb0 CH C3
 have B0 := hid hb0
 have W0 := hid hw0
 obtain ⟨nm, ats, rs⟩ := t
 obtain ⟨ao, acap, rfl, -⟩ := RdE.split ht.1
 have AE := hid (show arityE (nm, ats, rs) a = if tabE2 (nm, ats, rs) ≠ 0 then tabE2 (nm, ats, rs) else if a < 0 ∨ (ats.length : Int) <= a then 6 else 0 from rfl)
 obtain ⟨c0, c1, c2⟩ := C3.out _ (Below.refl _ _)
 clear hb0 hw0 ht
 by_cases he : tabE2 (nm, ats, rs) = 0
 ·rw [he, if_neg (by simp)] at AE
  have KK := hid he
  clear he
  by_cases ha : a < 0
  ·have AE2 := hid (show arityE (nm, ats, rs) a = 6 by rw [AE.out, if_pos (.inl ha)])
   rw [AE2.out]
   clear hk
   go_enter Tryz.func57, Tryz.ntmps57
   go_wp2_with fail
   rw [W0.out]
   go_wp2_with fail
   refine CH.out.mono ?_
   rw [KK.out]
   rintro e w1 ⟨rfl, hb1⟩
   have B1 := hid (B0.out.trans (hb1.mono B0.out.size))
   obtain ⟨d0, d1, d2⟩ := C3.out _ hb1
   clear hb1
   go_wp2_with fail
   go_ret2
   exact ⟨rfl, B1.out⟩
  ·have ha2 : (ats.length : Int) <= a := by
    rcases Int.lt_or_le a ats.length with h | h
    ·exfalso; apply hk; rw [AE.out, if_neg (by omega)]
    ·exact h
   have AE2 := hid (show arityE (nm, ats, rs) a = 6 by rw [AE.out, if_pos (.inr ha2)])
   rw [AE2.out]
   have ha3 : decide (a ≥ (ats.length : Int)) = true := by simpa using ha2
   clear hk ha2
   go_enter Tryz.func57, Tryz.ntmps57
   go_wp2_with fail
   rw [W0.out]
   go_wp2_with fail
   refine CH.out.mono ?_
   rw [KK.out]
   rintro e w1 ⟨rfl, hb1⟩
   have B1 := hid (B0.out.trans (hb1.mono B0.out.size))
   obtain ⟨d0, d1, d2⟩ := C3.out _ hb1
   clear hb1
   go_wp2_with fail
   go_ret2
   exact ⟨rfl, B1.out⟩
 ·rw [if_pos he] at AE
  rw [AE.out]
  have hne : ((tabE2 (nm, ats, rs)) != (0 : Int)) = true := by simpa using he
  clear AE he hk
  generalize tabE2 (nm, ats, rs) = n at *
  go_enter Tryz.func57, Tryz.ntmps57
  go_wp2_with fail
  rw [W0.out]
  go_wp2_with fail
  refine CH.out.mono ?_
  rintro e w1 ⟨rfl, hb1⟩
  have B1 := hid (B0.out.trans (hb1.mono B0.out.size))
  clear hb1
  go_wp2_with fail
  go_ret2
  exact ⟨rfl, B1.out⟩

set_option maxHeartbeats 1600000 in
set_option maxRecDepth 100000 in
theorem without_ok (t : T3) (av rv : Value) (a : Nat) (w : World) (ht : RdT w av rv t) (hk : tabE2 t = 0) (ha : a < t.2.1.length) :
  Calls Tryz.prog 57 #[.agg #[.string t.1, av, rv], .int .i64 (a : Int)] w fun e w' => ∃ (v' : Value) (ks : List S), e = .returned (.tuple #[v', .int .i64 0]) /\ w'.ownsRow w.heap.size 58 1 v' ks.length (ks.map enc) /\ (∀ s, s ∈ ks ↔ s ∈ withoutS (pairsS t.2.2) a) /\ ks.length <= 40000 /\ Below w.heap.size w w' := by
 have hb0 := below_alloc w (.cells #[.string t.1, av, rv] 32)
 have C3 := hid (fun W h => cells3 (w := w) (a := .string t.1) (b := av) (c := rv) (t := 32) W h)
 have T0 := hid (ht.below hb0)
 obtain ⟨w0, hw0⟩ : ∃ w0 : World, w.alloc (.cells #[.string t.1, av, rv] 32) = w0 := ⟨_, rfl⟩
 rw [hw0] at hb0 C3 T0
 have B0 := hid hb0
 have W0 := hid hw0
 have hsz0 := hb0.size
 have CH := hid (fun (W : World) (h : Below w0.heap.size w0 W) => check_any t av rv W (T0.out.below h))
 have CO := hid (fun (W : World) (h : Below w0.heap.size w0 W) => counts_any t av rv W (T0.out.below h) hk)
 have KK := hid hk
 have ha16 : a < 16 := Nat.lt_of_lt_of_le ha (tabE2_ok hk).1
 obtain ⟨nm, ats, rs⟩ := t
 replace ha : a < ats.length := ha
 obtain ⟨ao, acap, rfl, -⟩ := RdE.split ht.1
 clear hb0 hw0 hk
 obtain ⟨G, hG⟩ : ∃ G, pairsS (nm, ats, rs).2.2 = G := ⟨_, rfl⟩
 rw [hG] at CO ⊢
 clear hG
 obtain ⟨c0, c1, c2⟩ := C3.out _ (Below.refl _ _)
 have a0 : (0 : Int) <= (a : Int) := by omega
 have an0 : ¬ (a : Int) < 0 := by omega
 have ha3 : decide ((a : Int) ≥ (ats.length : Int)) = false := by simp; omega
 go_enter Tryz.func57, Tryz.ntmps57
 go_wp2_with fail
 rw [W0.out]
 go_wp2_with fail
 refine (CH.out _ (Below.refl _ _)).mono ?_
 rw [KK.out]
 rintro e w1 ⟨rfl, hb1⟩
 have B1 := hid hb1
 obtain ⟨d0, d1, d2⟩ := C3.out _ hb1
 clear hb1 c0 c1 c2
 go_wp2_with fail
 refine (CO.out _ B1.out).mono ?_
 rintro e w2 ⟨b, ps, rfl, hown, hn, hperm, hb, hb2⟩
 have B2 := hid (B0.out.trans (B1.out.trans (hb2.mono B1.out.size) |>.mono hsz0))
 have hs2 := B2.out.size
 have HM := hid (show ∀ s, memB ps s = decide (s ∈ G) from fun s => by rw [has_perm hperm]; rfl)
 have HO := hid hown
 have hbl := hown.lt
 clear hown hb2 hperm d0 d1 d2
 generalize cntF ps = g at *
 generalize memB ps = pp at *
 generalize ps.length = n at *
 go_wp2_with (at_range; refine wpList_krange (E := cntElems Tryz.prog 2 undI64) (z := 0) (k := 58) rfl _ 104 rfl undU32 undMapC rfl HO.out ?_; intro w3 cnt hrg hcn hb3 hs3)
 go_frame
 have ST := hid (And.intro hrg hb3)
 clear hrg hb3
 obtain ⟨qf, hqf⟩ : ∃ qf : S -> Bool, (fun s : S => !s.getLsbD a) = qf := ⟨_, rfl⟩
 have QF := hid (show ∀ s : S, qf s = !s.getLsbD a from fun s => by rw [<- hqf])
 clear hqf
 go_loopw [7] (fun u wr => ∃ (left : S -> Bool) (cnt : Nat) (ks : List S), RngC wr b w2.heap.size n g pp left cnt /\ wr.ownsRow (w2.heap.size + 1) 58 1 u ks.length (ks.map enc) /\ Hid (CollF pp left qf ks) /\ ks.length + cnt <= n /\ Below w2.heap.size w2 wr /\ w2.heap.size + 1 <= wr.heap.size) (fun _ wr => wr.rangeLeft b w2.heap.size)
 case atStart => exact ⟨pp, cnt, [], ST.out.1, World.ownsRow_nil _ _ _ _, hid (CollF.start pp qf), by simpa using hcn, ST.out.2, by omega⟩
 case round =>
  obtain ⟨left, cnt1, ks, hrg, hl, CL, hcn1, hnx, hsz⟩ := hrel
  have hLE := hid hrg.left_eq
  go_wp2_with (at_next; refine wpList_knext (E := cntElems Tryz.prog 2 undI64) (z := 0) (k := 58) rfl _ rfl undU32 rfl hrg ?_ ?_)
  ·intro hc0 hl0
   have hmem := hid (show ∀ s, s ∈ ks ↔ s ∈ withoutS G a from fun s => by rw [CL.out.done hl0, HM.out, QF.out, mem_withoutS]; simp)
   have HL := hid (own_mono hl (B' := w.heap.size) (by omega))
   have HN := hid (B2.out.trans (hnx.mono hs2))
   clear hl0 hrg hl hnx hLE
   go_wp2_with fail
   go_ret2
   exact ⟨_, ks, rfl, HL.out, hmem.out, by omega, HN.out⟩
  ·intro s c w4 cnt2 hls hps hrg4 hlt hg4 hs4 hen
   have hl4 := own_grown2 hl hg4 (by omega)
   have hnx4 : Below w2.heap.size w2 w4 := hnx.grown hg4 hnx.size (fun j hj => by cases hj; exact Nat.le_refl _)
   have RG4 := hid hrg4
   have HS4 := hid hs4
   have hsz4 : w2.heap.size + 1 <= w4.heap.size := by omega
   have BZ := bit_zero s a
   clear hl hnx hrg hg4 hrg4 hs4
   cases hq : s.getLsbD a with
   | false =>
    rw [hq] at BZ
    have bz : (s >>> a &&& 1#32 == 0#32) = true := by simpa using BZ
    have CL4 := hid (CL.out.yes hls hps (by rw [QF.out, hq]; rfl))
    clear BZ hq
    go_wp2_with (at_builtin; refine wpList_push rfl _ _ 38 rfl (w2.heap.size + 1) 58 (.int .u32 0) 4 undSets infoSet rfl (by decide) enc (fun _ => rfl) _ ks rfl (hl4.alloc _) ⟨w4.heap.size, 0, none⟩ s rfl (by simp [enc]) (by omega) (by simp; omega) ?_)
    intro v' w5 hown5 hgrow
    have RG5 := hid ((RG4.out.below (below_alloc w4 _)).kept hgrow (fun e => by have := (hl4.lt _ e.symm).1; omega) (fun e => by have := (hl4.lt _ e.symm).1; omega))
    have hb5 := hid (below_push hnx4 hnx4.size (own_mono hl4 (by omega)) hgrow)
    have hs5 := hgrow.size
    simp at hs5
    have ho5 := hid hown5
    have MS := hid (show wr.rangeLeft b w2.heap.size = cnt1 /\ w5.rangeLeft b w2.heap.size = cnt2 from ⟨hLE.out, RG5.out.left_eq⟩)
    clear hgrow hl4 hnx4 hown5 hen hLE
    go_wp2_with fail
    go_roundw
    case rel => exact ⟨_, cnt2, ks ++ [s], RG5.out, by simpa using ho5.out, CL4, by simp; omega, hb5.out, by omega⟩
    case measure => rw [MS.out.1, MS.out.2]; exact hlt
   | true =>
    rw [hq] at BZ
    have bz : (s >>> a &&& 1#32 == 0#32) = false := by simpa using BZ
    have CL4 := hid (CL.out.no (s := s) (by rw [QF.out, hq]; rfl))
    have MS := hid (show wr.rangeLeft b w2.heap.size = cnt1 /\ w4.rangeLeft b w2.heap.size = cnt2 from ⟨hLE.out, RG4.out.left_eq⟩)
    have HL4 := hid hl4
    have HN4 := hid hnx4
    clear BZ hq hl4 hnx4 hLE
    go_wp2_with fail
    go_roundw
    case rel => exact ⟨_, cnt2, ks, RG4.out, HL4.out, CL4, by omega, HN4.out, hsz4⟩
    case measure => rw [MS.out.1, MS.out.2]; exact hlt

end Go.Proofs.YtalejolehccclaaGreatDoor

/- slices.DeleteFunc over a row of the call's own at a function value that makes memory, and attrset's keep, Minimal and Maximal. -/
namespace Go.Proofs.YtalejolehccclaaGreatDoor
open Go.RowKit

theorem own_take {w : World} {B g n cap k : Nat} {e : TypeId} {xs : List Value} (h : w.ownsRow B e 1 (.slice (some ⟨g, 0, none⟩) n cap) n xs) (hk : k <= n) : w.ownsRow B e 1 (.slice (some ⟨g, 0, none⟩) k cap) k (xs.take k) := by
 have hl : xs.length = n * 1 := h.1
 refine ⟨by rw [List.length_take]; omega, ?_⟩
 rcases h.2 with ⟨h1, _⟩ | ⟨g', cap', cur, hv, hB, hg, hnc, hcm, hcs, htake⟩
 ·cases h1
 ·simp only [Value.slice.injEq, Option.some.injEq, Addr.mk.injEq] at hv
  obtain ⟨⟨rfl, -, -⟩, -, rfl⟩ := hv
  refine .inr ⟨g, cap, cur, rfl, hB, hg, by omega, hcm, hcs, ?_⟩
  rw [<- htake, List.take_take, Nat.mul_one, Nat.mul_one, Nat.min_eq_left hk]
theorem own_setCells {B g n cap : Nat} {e : TypeId} : ∀ (vs : List Value) (o : Nat) (w : World) (xs : List Value), w.ownsRow B e 1 (.slice (some ⟨g, 0, none⟩) n cap) n xs -> ∃ xs', (w.setCells g o vs).ownsRow B e 1 (.slice (some ⟨g, 0, none⟩) n cap) n xs' /\ xs'.take o = xs.take o := by
 intro vs
 induction vs with
 | nil => intro o w xs h; exact ⟨xs, h, rfl⟩
 | cons u vs ih =>
  intro o w xs h
  obtain ⟨xs', h1, h2⟩ := ih (o + 1) _ _ (h.stored o u).1
  refine ⟨xs', h1, ?_⟩
  have := congrArg (List.take o) h2
  rw [List.take_take, List.take_take, Nat.min_eq_left (by omega)] at this
  rw [this, List.take_set_of_le (Nat.le_refl _)]

theorem below_cells {B : Nat} {a : World} (b : Nat) (hb : B <= b) : ∀ (vs : List Value) (o : Nat) {w : World}, Below B a w -> Below B a (w.setCells b o vs) := by
 intro vs
 induction vs with
 | nil => intro o w h; exact h
 | cons u vs ih => intro o w h; exact ih (o + 1) (h.setCell (p := ⟨b, o, none⟩) hb u)

def IdxPost (p : S -> Bool) (xs : List S) (w : World) (e : Ending) (w' : World) : Prop :=
 Below w.heap.size w w' /\ ((e = .returned (.int .i64 (-1)) /\ xs.any p = false) ∨ ∃ k, k < xs.length /\ e = .returned (.int .i64 (k : Int)) /\ (xs.take k).any p = false /\ ∀ x, xs[k]? = some x -> p x = true)
theorem indexFuncM_any (g : Nat) (cb : Array Value) (p : S -> Bool) (xs : List S) (v : Value) (w w0 : World) (hb : Below w0.heap.size w0 w) (hv : RdE enc w v xs)
  (eg : ∀ (args : Array Value) (w : World), (callFunc g args).run Tryz.prog w = .ok (.enter g args) w)
  (hg : ∀ (x : S) (W : World), Below w0.heap.size w0 W -> Calls Tryz.prog g (#[enc x] ++ cb) W fun e w' => e = .returned (.bool (p x)) /\ Below W.heap.size W w') :
  Calls Tryz.prog 117 #[v, .func (.func g) #[] cb] w (IdxPost p xs w) := by
 obtain ⟨ao, cap, rfl, h2, hc⟩ := hv.split
 have HC := hid hc
 unfold enc at hg
 have G := hid hg
 have HB := hid hb
 have hs0 := hb.size
 clear hg hc hv hb
 go_enter Tryz.func117, Tryz.ntmps117
 go_wp2
 go_loopw [5, 8] (fun _ i wr => ∃ k : Nat, k <= xs.length /\ i = .int .i64 k /\ Hid ((xs.take k).any p = false) /\ Below w.heap.size w wr) (fun _ i _ => xs.length - (intOf i).toNat)
 case atStart => exact ⟨0, Nat.zero_le _, rfl, hid rfl, Below.refl _ _⟩
 case round =>
  obtain ⟨k, hk, rfl, H, hnx⟩ := hrel
  have NX := hid hnx
  have hsz := hnx.size
  clear hnx
  by_cases hlt : k < xs.length
  ·obtain ⟨x, hx⟩ := get_some hlt
   obtain ⟨b, off, rfl, hd⟩ := HC.out k x hx
   have e1 : wr.cell? ⟨b, off + k, none⟩ = some (.int .u32 (iv x)) := hd wr NX.out
   have X := hid hx
   have G1 := hid (G.out x wr (HB.out.trans (NX.out.mono hs0)))
   clear hd hx
   cases hp : p x with
   | true =>
    rw [hp] at G1
    have P1 := hid hp
    clear hp
    go_wp2_with (go_at_fn g; refine G1.out.mono ?_; rintro e w2 ⟨rfl, hb2⟩)
    have B2 := hid (NX.out.trans (hb2.mono hsz))
    clear hb2
    go_ret
    exact ⟨B2.out, .inr ⟨k, hlt, rfl, H.out, fun y hy => by rw [X.out] at hy; cases hy; exact P1.out⟩⟩
   | false =>
    rw [hp] at G1
    have P1 := hid hp
    clear hp
    go_wp2_with (go_at_fn g; refine G1.out.mono ?_; rintro e w2 ⟨rfl, hb2⟩)
    have B2 := hid (NX.out.trans (hb2.mono hsz))
    clear hb2
    go_roundw
    case rel => exact ⟨k + 1, by omega, by go_num, hid (none_next X.out P1.out H.out), B2.out⟩
    case measure => simp [intOf]; omega
  ·go_wp2
   go_ret
   exact ⟨NX.out, .inl ⟨rfl, any_end H.out hlt⟩⟩

structure Del (p : S -> Bool) (xs : List S) (i j : Nat) (dk : List S) : Prop where
 size : dk.length = xs.length
 lt : i < j
 low : dk.take i = (xs.take j).filter (fun x => !p x)
 high : ∀ t, j <= t -> dk[t]? = xs[t]?
theorem none_filter {p : S -> Bool} {xs : List S} (h : xs.any p = false) : xs.filter (fun x => !p x) = xs := by
 rw [List.filter_eq_self]
 intro x hx
 rw [List.any_eq_false] at h
 simp [h x hx]
theorem Del.start {p : S -> Bool} {xs : List S} {k : Nat} {x : S} (hx : xs[k]? = some x) (h : (xs.take k).any p = false) (hp : p x = true) : Del p xs k (k + 1) xs :=
 ⟨rfl, by omega, by rw [take_next hx, List.filter_append, none_filter h]; simp [hp], fun _ _ => rfl⟩
theorem Del.keep {p : S -> Bool} {xs dk : List S} {i j : Nat} {x : S} (h : Del p xs i j dk) (hx : xs[j]? = some x) (hp : p x = false) : Del p xs (i + 1) (j + 1) (dk.set i x) := by
 have hj := (List.getElem?_eq_some_iff.1 hx).1
 have hi : i < dk.length := by have := h.size; have := h.lt; omega
 refine ⟨by rw [List.length_set]; exact h.size, by have := h.lt; omega, ?_, fun t ht => ?_⟩
 ·rw [take_next hx, List.filter_append, <- h.low, take_next (x := x) (by rw [List.getElem?_set_self hi]), List.take_set_of_le (Nat.le_refl _)]
  simp [hp]
 ·rw [List.getElem?_set_ne (by have := h.lt; omega)]
  exact h.high t (by omega)
theorem Del.skip {p : S -> Bool} {xs dk : List S} {i j : Nat} {x : S} (h : Del p xs i j dk) (hx : xs[j]? = some x) (hp : p x = true) : Del p xs i (j + 1) dk :=
 ⟨h.size, by have := h.lt; omega, by rw [take_next hx, List.filter_append, <- h.low]; simp [hp], fun t ht => h.high t (by omega)⟩

set_option maxHeartbeats 1600000 in
theorem deleteFunc_any (g : Nat) (cb : Array Value) (p : S -> Bool) (xs : List S) (v : Value) (w w0 : World) (hb : Below w0.heap.size w0 w) (hown : w.ownsRow w0.heap.size 58 1 v xs.length (xs.map enc)) (hl : xs.length < 17592186044416)
  (eg : ∀ (args : Array Value) (w : World), (callFunc g args).run Tryz.prog w = .ok (.enter g args) w)
  (hg : ∀ (x : S) (W : World), Below w0.heap.size w0 W -> Calls Tryz.prog g (#[enc x] ++ cb) W fun e w' => e = .returned (.bool (p x)) /\ Below W.heap.size W w') :
  Calls Tryz.prog 163 #[v, .func (.func g) #[] cb] w fun e w' => ∃ v', e = .returned v' /\ w'.ownsRow w0.heap.size 58 1 v' (xs.filter (fun x => !p x)).length ((xs.filter (fun x => !p x)).map enc) /\ Below w0.heap.size w0 w' := by
 have IX := hid (indexFuncM_any g cb p xs v w w0 hb (RdE.of_owns hown (by omega)) eg hg)
 unfold enc at hg
 have G := hid hg
 have HB := hid hb
 have hs0 := hb.size
 have HO := hid hown
 obtain ⟨ao, cap, rfl, -⟩ := (RdE.of_owns hown (by omega)).split
 clear hg hb hown
 go_enter Tryz.func163, Tryz.ntmps163
 go_wp2_with fail
 refine IX.out.mono ?_
 rintro e w1 ⟨hb1, ⟨rfl, hnone⟩ | ⟨k0, hk0, rfl, hfirst, hhit⟩⟩
 ·have NF := hid (none_filter hnone)
  have HO1 := hid (own_below HO.out hb1)
  have B1 := hid (HB.out.trans (hb1.mono hs0))
  clear hnone hb1
  go_wp2_with fail
  go_ret
  exact ⟨_, rfl, by rw [NF.out]; exact HO1.out, B1.out⟩
 ·obtain ⟨x0, hx0⟩ := get_some hk0
  have D0 := hid (Del.start hx0 hfirst (hhit x0 hx0))
  obtain ⟨gb, gcap, hform⟩ : ∃ gb gcap, Value.slice ao xs.length cap = .slice (some ⟨gb, 0, none⟩) xs.length gcap := by
   rcases HO.out.2 with ⟨h1, h2⟩ | ⟨g', cap', cur, hv, _⟩
   ·omega
   ·exact ⟨g', cap', hv⟩
  simp only [Value.slice.injEq] at hform
  obtain ⟨rfl, -, rfl⟩ := hform
  have HO1 := hid (own_below HO.out hb1)
  have B1 := hid (HB.out.trans (hb1.mono hs0))
  have hkne : ((k0 : Int) == -1) = false := beq_eq_false_iff_ne.2 (by omega)
  have hgb := HO1.out.lt gb rfl
  have hcapn : xs.length <= cap := by
   rcases HO.out.2 with ⟨h1, _⟩ | ⟨g', cap', cur, hv, _, _, hnc, _⟩
   ·cases h1
   ·simp only [Value.slice.injEq] at hv; omega
  clear hfirst hhit hx0 hb1
  have k00 : (0 : Int) <= (k0 : Int) := by omega
  go_wp2_with fail
  go_loopw [5, 6] (fun i j wr => ∃ (a b : Nat) (dk : List S), b <= xs.length /\ i = .int .i64 a /\ j = .int .i64 b /\ Hid (Del p xs a b dk) /\ wr.ownsRow w0.heap.size 58 1 (.slice (some ⟨gb, 0, none⟩) xs.length cap) xs.length (dk.map enc) /\ Below w0.heap.size w0 wr) (fun _ j _ => xs.length - (intOf j).toNat)
  case atStart => exact ⟨k0, k0 + 1, xs, by omega, rfl, by go_num, D0, HO1.out, B1.out⟩
  case round =>
   obtain ⟨a, b, dk, hbl, rfl, rfl, D, hown, hnx⟩ := hrel
   have hsz := hnx.size
   have hab := D.out.lt
   have hdl := D.out.size
   have b0 : (0 : Int) <= (b : Int) := by omega
   have a0 : (0 : Int) <= (a : Int) := by omega
   by_cases hlt : b < xs.length
   ·obtain ⟨x, hx⟩ := get_some hlt
    have hxd : dk[b]? = some x := by rw [D.out.high b (Nat.le_refl _), hx]
    have e1 : wr.cell? ⟨gb, b, none⟩ = some (.int .u32 (iv x)) := by
     rw [hown.cellAt b (by omega), List.getElem?_map, hxd]; rfl
    have G1 := hid (G.out x wr hnx)
    have HO2 := hid hown
    have NX := hid hnx
    cases hp : p x with
    | true =>
     rw [hp] at G1
     have D2 := hid (D.out.skip hx hp)
     clear hp hown hnx hx hxd
     go_wp2_with (go_at_fn g; refine G1.out.mono ?_; rintro e w2 ⟨rfl, hb2⟩)
     have HO3 := hid (own_below HO2.out hb2)
     have NX3 := hid (NX.out.trans (hb2.mono hsz))
     clear hb2
     go_roundw
     case rel => exact ⟨a, b + 1, dk, by omega, rfl, by go_num, D2, HO3.out, NX3.out⟩
     case measure => simp [intOf]; omega
    | false =>
     rw [hp] at G1
     have D2 := hid (D.out.keep hx hp)
     obtain ⟨y, hy⟩ := get_some (show a < dk.length by omega)
     have OY := hid (show (dk.map enc)[a]? = some (.int .u32 (iv y)) by rw [List.getElem?_map, hy]; rfl)
     clear hp hown hnx hx hxd hy
     go_wp2_with (go_at_fn g; refine G1.out.mono ?_; rintro e w2 ⟨rfl, hb2⟩; have HO3 := hid (own_below HO2.out hb2); have NX3 := hid (NX.out.trans (hb2.mono hsz)); clear hb2; have hcell : w2.cell? ⟨gb, a, none⟩ = some (.int .u32 (iv y)) := (HO3.out.cellAt a (by omega)).trans OY.out; have hfz : w2.frozen? ⟨gb, a, none⟩ = false := HO3.out.frozenAt _)
     have ST := HO3.out.stored a (.int .u32 (iv x))
     have S1 := hid (show (w2.setCell ⟨gb, a, none⟩ (.int .u32 (iv x))).ownsRow w0.heap.size 58 1 (.slice (some ⟨gb, 0, none⟩) xs.length cap) xs.length ((dk.set a x).map enc) by rw [List.map_set]; exact ST.1)
     have S2 := hid (NX3.out.grown ST.2 NX3.out.size (fun j hj => by cases hj; exact hgb.1))
     clear ST hcell hfz
     go_roundw
     case rel => exact ⟨a + 1, b + 1, dk.set a x, by omega, by go_num, by go_num, D2, S1.out, S2.out⟩
     case measure => simp [intOf]; omega
   ·have hbn : b = xs.length := by omega
    have han : a < xs.length := by omega
    have hlow := D.out.low
    rw [hbn, List.take_of_length_le (Nat.le_refl _)] at hlow
    have hfl : (xs.filter (fun x => !p x)).length = a := by rw [<- hlow, List.length_take]; omega
    have hcl : ∀ ty, (Builtin.clear_ #[38] ty #[.slice (some ⟨gb, a, none⟩) (xs.length - a) (cap - a)]).run Tryz.prog wr = .ok (.tuple #[]) (wr.setCells gb a (List.replicate (xs.length - a) (.int .u32 0))) := fun ty => Lib.run_clear_slice wr _ _ ty _ undSets (fun w => Tryz.zeroValue58 w) rfl rfl gb a _ _ (by omega)
     (fun t ht => by
      obtain ⟨y, hy⟩ := get_some (show a + t < dk.length by omega)
      rw [hown.cellAt (a + t) (by omega), List.getElem?_map, hy]; rfl)
     (fun t _ => hown.frozenAt _)
    obtain ⟨xs', h1, h2⟩ := own_setCells (List.replicate (xs.length - a) (.int .u32 0)) a wr _ hown
    have h3 := own_take h1 (k := a) (by omega)
    have FIN := hid (show (wr.setCells gb a (List.replicate (xs.length - a) (.int .u32 0))).ownsRow w0.heap.size 58 1 (.slice (some ⟨gb, 0, none⟩) a cap) (xs.filter (fun x => !p x)).length ((xs.filter (fun x => !p x)).map enc) by
     rw [h2, <- List.map_take, hlow] at h3
     rw [hfl]; exact h3)
    have BF := hid (below_cells gb hgb.1 (List.replicate (xs.length - a) (.int .u32 0)) a hnx)
    have D3 := hid D.out
    clear hlow hfl h1 h2 h3 hown hnx D hbn hdl
    go_wp2_with fail
    go_ret
    exact ⟨_, rfl, FIN.out, BF.out⟩

theorem amaximal1_any (a b : S) (w : World) : Calls Tryz.prog 130 #[enc a, enc b] w fun e w' => e = .returned (.bool (upR a b)) /\ w = w' := by
 unfold enc upR
 go_enter Tryz.func130, Tryz.ntmps130
 go_wp2
 go_ret
 exact ⟨rfl, rfl⟩

theorem keep11_any (f : Nat) (r : S -> S -> Bool) (a b : S) (ba bw : Nat) (w : World) (hca : w.cell? ⟨ba, 0, none⟩ = some (enc a)) (hcw : w.cell? ⟨bw, 0, none⟩ = some (.func (.func f) #[] #[]))
  (eg : ∀ (args : Array Value) (w : World), (callFunc f args).run Tryz.prog w = .ok (.enter f args) w)
  (hf : ∀ (a b : S) (w : World), Calls Tryz.prog f #[enc a, enc b] w fun e w' => e = .returned (.bool (r a b)) /\ w = w') :
  Calls Tryz.prog 165 (#[enc b] ++ #[.pointer (some ⟨ba, 0, none⟩), .pointer (some ⟨bw, 0, none⟩)]) w fun e w' => e = .returned (.bool (a != b && r a b)) /\ w = w' := by
 show Calls Tryz.prog 165 #[enc b, .pointer (some ⟨ba, 0, none⟩), .pointer (some ⟨bw, 0, none⟩)] w _
 have C := hid (hf a b w)
 unfold enc at hca C ⊢
 clear hf
 cases hq : (a != b) with
 | false =>
  rw [Bool.false_and]
  go_enter Tryz.func165, Tryz.ntmps165
  go_wp2
  go_ret
  exact ⟨rfl, rfl⟩
 | true =>
  rw [Bool.true_and]
  go_enter Tryz.func165, Tryz.ntmps165
  go_wp2_with (go_at_fn f; refine C.out.mono ?_; rintro e w' ⟨rfl, rfl⟩)
  go_ret
  exact ⟨rfl, rfl⟩
theorem keep1_any (f : Nat) (r : S -> S -> Bool) (ys : List S) (a : S) (vy : Value) (bl bw : Nat) (w : World) (hr : RdE enc w vy ys) (hcl : w.cell? ⟨bl, 0, none⟩ = some vy) (hcw : w.cell? ⟨bw, 0, none⟩ = some (.func (.func f) #[] #[]))
  (eg : ∀ (args : Array Value) (w : World), (callFunc f args).run Tryz.prog w = .ok (.enter f args) w)
  (hf : ∀ (a b : S) (w : World), Calls Tryz.prog f #[enc a, enc b] w fun e w' => e = .returned (.bool (r a b)) /\ w = w') :
  Calls Tryz.prog 164 (#[enc a] ++ #[.pointer (some ⟨bl, 0, none⟩), .pointer (some ⟨bw, 0, none⟩)]) w fun e w' => e = .returned (.bool (ys.any fun b => a != b && r a b)) /\ Below w.heap.size w w' := by
 show Calls Tryz.prog 164 #[enc a, .pointer (some ⟨bl, 0, none⟩), .pointer (some ⟨bw, 0, none⟩)] w _
 have hb := below_alloc w (.cells #[enc a] 58)
 have hcw' := (hb.cell (p := ⟨bw, 0, none⟩) (World.block_lt_of_cell? _ _ hcw)).trans hcw
 have G := hid (containsFunc_any 165 #[.pointer (some ⟨w.heap.size, 0, none⟩), .pointer (some ⟨bw, 0, none⟩)] (fun b => a != b && r a b) ys vy _ (hr.below hb)
  (enters _ _ _ Tryz.func165 (by kernel_rfl) rfl) (fun b => keep11_any f r a b _ bw _ cell_new hcw' eg hf))
 obtain ⟨ao, cap, rfl, -⟩ := hr
 have hcl' := (hb.cell (p := ⟨bl, 0, none⟩) (World.block_lt_of_cell? _ _ hcl)).trans hcl
 unfold enc at hb G hcl' hcw' ⊢
 clear hcl hcw hf eg
 go_enter Tryz.func164, Tryz.ntmps164
 go_wp2_with fail
 refine G.out.mono ?_
 rintro e w2 ⟨rfl, rfl⟩
 go_wp2_with fail
 go_ret
 exact ⟨rfl, hb⟩

set_option maxHeartbeats 800000 in
theorem keep_any (f : Nat) (r : S -> S -> Bool) (xs : List S) (v : Value) (w : World) (hv : RdE enc w v xs) (h44 : xs.length < 17592186044416)
  (eg : ∀ (args : Array Value) (w : World), (callFunc f args).run Tryz.prog w = .ok (.enter f args) w)
  (hf : ∀ (a b : S) (w : World), Calls Tryz.prog f #[enc a, enc b] w fun e w' => e = .returned (.bool (r a b)) /\ w = w') :
  Calls Tryz.prog 128 #[v, .func (.func f) #[] #[]] w fun e w' => ∃ v', e = .returned v' /\ w'.ownsRow w.heap.size 58 1 v' (keepS r xs).length ((keepS r xs).map enc) /\ Below w.heap.size w w' := by
 have hb0 := below_alloc w (.cells #[.func (.func f) #[] #[]] 190)
 have CO := hid (aorder_any xs v _ (hv.below hb0) h44)
 have hcw0 : (w.alloc (.cells #[.func (.func f) #[] #[]] 190)).cell? ⟨w.heap.size, 0, none⟩ = some (.func (.func f) #[] #[]) := by simp
 obtain ⟨w0, hw0⟩ : ∃ w0 : World, w.alloc (.cells #[.func (.func f) #[] #[]] 190) = w0 := ⟨_, rfl⟩
 rw [hw0] at hb0 CO hcw0
 have B0 := hid hb0
 have W0 := hid hw0
 have hs0 := hb0.size
 obtain ⟨ao, cap, rfl, -⟩ := hv
 clear hb0 hw0
 go_enter Tryz.func128, Tryz.ntmps128
 go_wp2_with fail
 rw [W0.out]
 go_wp2_with fail
 refine CO.out.mono ?_
 rintro e w1 ⟨v1, ys, rfl, hown, hord, hyl, hb1⟩
 have hys := ordS_of hord (fun _ => Iff.rfl)
 have KS := hid (show keepS r xs = ys.filter (fun a => !ys.any fun b => a != b && r a b) by unfold keepS; rw [<- hys])
 have R1 := RdE.of_owns hown (by omega)
 obtain ⟨yo, ycap, rfl, -⟩ := R1.split
 have hcw1 : w1.cell? ⟨w.heap.size, 0, none⟩ = some (.func (.func f) #[] #[]) := (hb1.cell (p := ⟨w.heap.size, 0, none⟩) (World.block_lt_of_cell? _ _ hcw0)).trans hcw0
 have hb2 := below_alloc w1 (.cells #[.slice yo ys.length ycap] 38)
 have hcl2 : (w1.alloc (.cells #[.slice yo ys.length ycap] 38)).cell? ⟨w1.heap.size, 0, none⟩ = some (.slice yo ys.length ycap) := by simp
 have hcw2 := (hb2.cell (p := ⟨w.heap.size, 0, none⟩) (World.block_lt_of_cell? _ _ hcw1)).trans hcw1
 have R2 := R1.below hb2
 have B1 := hid (B0.out.trans (hb1.mono hs0))
 have B2 := hid (B1.out.trans (hb2.mono B1.out.size))
 have CL := hid (clone_any ys _ _ R2 (by omega))
 obtain ⟨w2, hw2⟩ : ∃ w2 : World, w1.alloc (.cells #[.slice yo ys.length ycap] 38) = w2 := ⟨_, rfl⟩
 rw [hw2] at hcl2 hcw2 R2 B2 CL
 have W2 := hid hw2
 have K1 := hid (fun (a : S) (W : World) (h : Below w2.heap.size w2 W) => keep1_any f r ys a _ w1.heap.size w.heap.size W (R2.below h) ((h.cell (p := ⟨w1.heap.size, 0, none⟩) (World.block_lt_of_cell? _ _ hcl2)).trans hcl2) ((h.cell (p := ⟨w.heap.size, 0, none⟩) (World.block_lt_of_cell? _ _ hcw2)).trans hcw2) eg hf)
 have hs2 := B2.out.size
 clear hown hord hys R1 hcw1 hb2 hb1 hw2 hcw2 R2 hcw0 hf eg
 go_wp2_with fail
 rw [W2.out]
 go_wp2_with fail
 refine CL.out.mono ?_
 rintro e w3 ⟨v3, rfl, hown3, hb3⟩
 have DF := hid (deleteFunc_any 164 #[.pointer (some ⟨w1.heap.size, 0, none⟩), .pointer (some ⟨w.heap.size, 0, none⟩)] (fun a => ys.any fun b => a != b && r a b) ys v3 w3 w2 hb3 hown3 (by omega) (enters _ _ _ Tryz.func164 (by kernel_rfl) rfl) K1.out)
 clear hown3 hb3
 go_wp2_with fail
 refine DF.out.mono ?_
 rintro e w4 ⟨v4, rfl, hown4, hb4⟩
 rw [<- KS.out] at hown4
 have O4 := hid (own_mono hown4 hs2)
 have B4 := hid (B2.out.trans (hb4.mono hs2))
 clear hown4 hb4
 go_wp2_with fail
 go_ret
 exact ⟨_, rfl, O4.out, B4.out⟩

theorem amaximal_any (xs : List S) (v : Value) (w : World) (hv : RdE enc w v xs) (h44 : xs.length < 17592186044416) :
  Calls Tryz.prog 80 #[v] w fun e w' => ∃ v', e = .returned v' /\ w'.ownsRow w.heap.size 58 1 v' (keepS upR xs).length ((keepS upR xs).map enc) /\ Below w.heap.size w w' := by
 have C := hid (keep_any 130 upR xs v w hv h44 (enters _ _ _ Tryz.func130 (by kernel_rfl) rfl) amaximal1_any)
 obtain ⟨ao, cap, rfl, -⟩ := hv
 go_enter Tryz.func80, Tryz.ntmps80
 go_wp2_with fail
 refine C.out.mono ?_
 rintro e w1 ⟨v1, rfl, hown, hb1⟩
 have O1 := hid hown
 have B1 := hid hb1
 clear hown hb1
 go_wp2_with fail
 go_ret
 exact ⟨_, rfl, O1.out, B1.out⟩

end Go.Proofs.YtalejolehccclaaGreatDoor

/- The walks of drossref02's Minimal and Maximal. -/
namespace Go.Proofs.YtalejolehccclaaGreatDoor
open Go.RowKit

end Go.Proofs.YtalejolehccclaaGreatDoor

/- The walks of the reference's Sets and without, and of Maximal and Differences. -/
namespace Go.Proofs.YtalejolehccclaaGreatDoor
open Go.RowKit

theorem withoutS_length (G : List S) (a : Nat) : (withoutS G a).length <= G.length := List.length_filter_le _ _

set_option maxRecDepth 100000 in
theorem amax_err (t : T3) (av rv : Value) (a : Int) (w : World) (ht : RdT w av rv t) (hk : arityE t a ≠ 0) :
  Calls Tryz.prog 71 #[.agg #[.string t.1, av, rv], .int .i64 a] w fun e w' => e = .returned (.tuple #[.slice none 0 0, .int .i64 (arityE t a)]) /\ Below w.heap.size w w' := by
 have hb0 := below_alloc w (.cells #[.string t.1, av, rv] 32)
 have C3 := hid (fun W h => cells3 (w := w) (a := .string t.1) (b := av) (c := rv) (t := 32) W h)
 have T0 := hid (ht.below hb0)
 obtain ⟨w0, hw0⟩ : ∃ w0 : World, w.alloc (.cells #[.string t.1, av, rv] 32) = w0 := ⟨_, rfl⟩
 rw [hw0] at hb0 C3 T0
 have B0 := hid hb0
 have W0 := hid hw0
 have hsz0 := hb0.size
 clear hb0 hw0
 have CH := hid (without_err t av rv a _ T0.out hk)
 obtain ⟨c0, c1, c2⟩ := C3.out _ (Below.refl _ _)
 have hne : ((arityE t a) != (0 : Int)) = true := by simpa using hk
 clear hk ht T0 C3
 generalize arityE t a = n at *
 obtain ⟨nm, ats, rs⟩ := t
 go_enter Tryz.func71, Tryz.ntmps71
 go_wp2_with fail
 rw [W0.out]
 go_wp2_with fail
 refine CH.out.mono ?_
 rintro e w1 ⟨rfl, hb1⟩
 have B1 := hid (B0.out.trans (hb1.mono B0.out.size))
 clear hb1
 go_wp2_with fail
 go_ret2
 exact ⟨rfl, B1.out⟩

set_option maxRecDepth 100000 in
theorem adiff_err (t : T3) (av rv : Value) (a : Int) (w : World) (ht : RdT w av rv t) (hk : arityE t a ≠ 0) :
  Calls Tryz.prog 23 #[.agg #[.string t.1, av, rv], .int .i64 a] w fun e w' => e = .returned (.tuple #[.slice none 0 0, .int .i64 (arityE t a)]) /\ Below w.heap.size w w' := by
 have hb0 := below_alloc w (.cells #[.string t.1, av, rv] 32)
 have C3 := hid (fun W h => cells3 (w := w) (a := .string t.1) (b := av) (c := rv) (t := 32) W h)
 have T0 := hid (ht.below hb0)
 obtain ⟨w0, hw0⟩ : ∃ w0 : World, w.alloc (.cells #[.string t.1, av, rv] 32) = w0 := ⟨_, rfl⟩
 rw [hw0] at hb0 C3 T0
 have B0 := hid hb0
 have W0 := hid hw0
 have hsz0 := hb0.size
 clear hb0 hw0
 have CH := hid (without_err t av rv a _ T0.out hk)
 obtain ⟨c0, c1, c2⟩ := C3.out _ (Below.refl _ _)
 have hne : ((arityE t a) != (0 : Int)) = true := by simpa using hk
 clear hk ht T0 C3
 generalize arityE t a = n at *
 obtain ⟨nm, ats, rs⟩ := t
 go_enter Tryz.func23, Tryz.ntmps23
 go_wp2_with fail
 rw [W0.out]
 go_wp2_with fail
 refine CH.out.mono ?_
 rintro e w1 ⟨rfl, hb1⟩
 have B1 := hid (B0.out.trans (hb1.mono B0.out.size))
 clear hb1
 go_wp2_with fail
 go_ret2
 exact ⟨rfl, B1.out⟩

set_option maxRecDepth 100000 in
theorem amax_ok (t : T3) (av rv : Value) (a : Nat) (w : World) (ht : RdT w av rv t) (hk : tabE2 t = 0) (ha : a < t.2.1.length) :
  Calls Tryz.prog 71 #[.agg #[.string t.1, av, rv], .int .i64 (a : Int)] w fun e w' => ∃ v', e = .returned (.tuple #[v', .int .i64 0]) /\ w'.ownsRow w.heap.size 58 1 v' (keepS upR (withoutS (pairsS t.2.2) a)).length ((keepS upR (withoutS (pairsS t.2.2) a)).map enc) /\ Below w.heap.size w w' := by
 have hb0 := below_alloc w (.cells #[.string t.1, av, rv] 32)
 have C3 := hid (fun W h => cells3 (w := w) (a := .string t.1) (b := av) (c := rv) (t := 32) W h)
 have T0 := hid (ht.below hb0)
 obtain ⟨w0, hw0⟩ : ∃ w0 : World, w.alloc (.cells #[.string t.1, av, rv] 32) = w0 := ⟨_, rfl⟩
 rw [hw0] at hb0 C3 T0
 have B0 := hid hb0
 have W0 := hid hw0
 have hsz0 := hb0.size
 clear hb0 hw0
 have CW := hid (without_ok t av rv a _ T0.out hk ha)
 have AM := hid (fun (xs : List S) (u : Value) (W : World) (h : RdE enc W u xs) (hh : xs.length < 17592186044416) => amaximal_any xs u W h hh)
 obtain ⟨nm, ats, rs⟩ := t
 obtain ⟨G, hG⟩ : ∃ G, withoutS (pairsS (nm, ats, rs).2.2) a = G := ⟨_, rfl⟩
 rw [hG] at CW ⊢
 obtain ⟨c0, c1, c2⟩ := C3.out _ (Below.refl _ _)
 clear hG hk ht ha
 go_enter Tryz.func71, Tryz.ntmps71
 go_wp2_with fail
 rw [W0.out]
 go_wp2_with fail
 refine CW.out.mono ?_
 rintro e w1 ⟨v1, ks, rfl, hown, hmem, hkl, hb1⟩
 have KC := hid (keepS_congr upR hmem)
 have B1 := hid (B0.out.trans (hb1.mono hsz0))
 have hs1 := B1.out.size
 have R1 := hid (RdE.of_owns hown (by omega))
 clear hown hmem hb1
 go_wp2_with fail
 refine (AM.out ks _ _ R1.out (by omega)).mono ?_
 rintro e w2 ⟨v2, rfl, hown2, hb2⟩
 rw [KC.out] at hown2
 have O2 := hid (own_mono hown2 hs1)
 have B2 := hid (B1.out.trans (hb2.mono hs1))
 clear hown2 hb2
 go_wp2_with fail
 go_ret2
 exact ⟨_, rfl, O2.out, B2.out⟩

end Go.Proofs.YtalejolehccclaaGreatDoor

/- The walks of Differences, of agree and of the reference. -/
namespace Go.Proofs.YtalejolehccclaaGreatDoor
open Go.RowKit

theorem shl_fullA {m : Nat} (h : m <= 16) : 1#32 <<< m - 1#32 = fullN m := by
 have : m = 0 ∨ m = 1 ∨ m = 2 ∨ m = 3 ∨ m = 4 ∨ m = 5 ∨ m = 6 ∨ m = 7 ∨ m = 8 ∨ m = 9 ∨ m = 10 ∨ m = 11 ∨ m = 12 ∨ m = 13 ∨ m = 14 ∨ m = 15 ∨ m = 16 := by omega
 rcases this with rfl | rfl | rfl | rfl | rfl | rfl | rfl | rfl | rfl | rfl | rfl | rfl | rfl | rfl | rfl | rfl | rfl <;> decide +kernel
theorem mapTo_next {α : Type} (f : α -> α) {l : List α} {i : Nat} {x : α} (h : l[i]? = some x) : ((l.take i).map f ++ l.drop i).set i (f x) = (l.take (i + 1)).map f ++ l.drop (i + 1) := by
 have hi := (List.getElem?_eq_some_iff.1 h).1
 have hl : ((l.take i).map f).length = i := by rw [List.length_map, List.length_take]; omega
 rw [take_next h, List.map_append, drop_at h, List.set_append_right _ _ (by omega), hl, Nat.sub_self]
 simp
theorem mapTo_at {α : Type} (f : α -> α) {l : List α} {i : Nat} {x : α} (h : l[i]? = some x) : ((l.take i).map f ++ l.drop i)[i]? = some x := by
 have hi := (List.getElem?_eq_some_iff.1 h).1
 have hl : ((l.take i).map f).length = i := by rw [List.length_map, List.length_take]; omega
 rw [List.getElem?_append_right (by omega), hl, Nat.sub_self, drop_at h]; rfl
theorem diff_congr {G ks : List S} {n a : Nat} (h : ∀ s, s ∈ ks ↔ s ∈ withoutS G a) : redS (ks.map fun s => (fullN n &&& ~~~ bit a) &&& ~~~ s) = keepS downR (diffL n a G) := by
 rw [redS_keep]
 refine keepS_congr downR fun s => ?_
 unfold diffL
 rw [List.mem_map, List.mem_map]
 have e : ∀ x : S, (fullN n &&& ~~~ bit a) &&& ~~~ x = fullN n &&& ~~~ x &&& ~~~ bit a := fun x => by
  rw [BitVec.and_assoc, BitVec.and_assoc, BitVec.and_comm (~~~ bit a)]
 constructor
 ·rintro ⟨x, hx, rfl⟩; exact ⟨x, (h x).1 hx, (e x).symm⟩
 ·rintro ⟨x, hx, rfl⟩; exact ⟨x, (h x).2 hx, e x⟩

set_option maxHeartbeats 1600000 in
set_option maxRecDepth 100000 in
theorem adiff_ok (t : T3) (av rv : Value) (a : Nat) (w : World) (ht : RdT w av rv t) (hk : tabE2 t = 0) (ha : a < t.2.1.length) :
  Calls Tryz.prog 23 #[.agg #[.string t.1, av, rv], .int .i64 (a : Int)] w fun e w' => ∃ v', e = .returned (.tuple #[v', .int .i64 0]) /\ w'.ownsRow w.heap.size 58 1 v' (keepS downR (diffL t.2.1.length a (pairsS t.2.2))).length ((keepS downR (diffL t.2.1.length a (pairsS t.2.2))).map enc) /\ Below w.heap.size w w' := by
 have hb0 := below_alloc w (.cells #[.string t.1, av, rv] 32)
 have C3 := hid (fun W h => cells3 (w := w) (a := .string t.1) (b := av) (c := rv) (t := 32) W h)
 have T0 := hid (ht.below hb0)
 obtain ⟨w0, hw0⟩ : ∃ w0 : World, w.alloc (.cells #[.string t.1, av, rv] 32) = w0 := ⟨_, rfl⟩
 rw [hw0] at hb0 C3 T0
 have B0 := hid hb0
 have W0 := hid hw0
 have hsz0 := hb0.size
 clear hb0 hw0
 have h16 := (tabE2_ok hk).1
 have CW := hid (without_ok t av rv a _ T0.out hk ha)
 have RE := hid (fun (xs : List S) (u : Value) (W : World) (h : RdE enc W u xs) (hh : xs.length < 17592186044416) => reduce_any xs u W h hh)
 obtain ⟨nm, ats, rs⟩ := t
 replace ha : a < ats.length := ha
 replace h16 : ats.length <= 16 := h16
 obtain ⟨ao, acap, rfl, -⟩ := RdE.split ht.1
 have DC := hid (fun (ks : List S) (h : ∀ s, s ∈ ks ↔ s ∈ withoutS (pairsS rs) a) => diff_congr (n := ats.length) h)
 show Calls _ _ _ _ fun e w' => ∃ v', e = .returned (.tuple #[v', .int .i64 0]) /\ w'.ownsRow w.heap.size 58 1 v' (keepS downR (diffL ats.length a (pairsS rs))).length ((keepS downR (diffL ats.length a (pairsS rs))).map enc) /\ Below w.heap.size w w'
 obtain ⟨G, hG⟩ : ∃ G, keepS downR (diffL ats.length a (pairsS rs)) = G := ⟨_, rfl⟩
 rw [hG] at DC ⊢
 obtain ⟨c0, c1, c2⟩ := C3.out _ (Below.refl _ _)
 have a0 : (0 : Int) <= (a : Int) := by omega
 have SH := hid (shl_fullA h16)
 clear hG hk ht
 go_enter Tryz.func23, Tryz.ntmps23
 go_wp2_with fail
 rw [W0.out]
 go_wp2_with fail
 refine CW.out.mono ?_
 rintro e w1 ⟨v1, ks, rfl, hown, hmem, hkl, hb1⟩
 have DK := hid (DC.out ks hmem)
 have B1 := hid hb1
 have hs1 := hb1.size
 obtain ⟨d0, d1, d2⟩ := C3.out _ hb1
 have HO := hid hown
 obtain ⟨lo, lcap, rfl, -⟩ := (RdE.of_owns hown (by omega)).split
 clear hown hmem hb1 c0 c1 c2
 go_wp2_with fail
 go_quiet (fail)
 obtain ⟨f, hf⟩ : ∃ f : S -> S, (fun s => (fullN ats.length &&& ~~~ bit a) &&& ~~~ s) = f := ⟨_, rfl⟩
 have FF := hid (show ∀ s : S, f s = (1#32 <<< ats.length - 1#32 &&& ~~~ (1#32 <<< a)) &&& ~~~ s from fun s => by rw [<- hf, SH.out]; rfl)
 rw [hf] at DK
 obtain ⟨oth, hoth⟩ : ∃ oth : S, (1#32 <<< ats.length - 1#32 &&& ~~~ (1#32 <<< a)) = oth := ⟨_, rfl⟩
 rw [hoth] at FF ⊢
 clear hf hoth SH
 go_wp2_with fail
 go_loopw [30] (fun i wr => ∃ k : Nat, k <= ks.length /\ i = .int .i64 k /\ wr.ownsRow w0.heap.size 58 1 (.slice lo ks.length lcap) ks.length (((ks.take k).map f ++ ks.drop k).map enc) /\ Below w0.heap.size w0 wr) (fun i _ => ks.length - (intOf i).toNat)
 case atStart => exact ⟨0, Nat.zero_le _, rfl, by simpa using own_below HO.out (below_drewN _ _ _), below_drewN' B1.out _⟩
 case round =>
  obtain ⟨k, hk, rfl, hown, hnx⟩ := hrel
  have hsz := hnx.size
  have k0 : (0 : Int) <= (k : Int) := by omega
  by_cases hlt : k < ks.length
  ·obtain ⟨x, hx⟩ := get_some hlt
   obtain ⟨gb, gcap, hform⟩ : ∃ gb gcap, Value.slice lo ks.length lcap = .slice (some ⟨gb, 0, none⟩) ks.length gcap := by
    rcases hown.2 with ⟨h1, h2⟩ | ⟨g', cap', cur, hv, _⟩
    ·omega
    ·exact ⟨g', cap', hv⟩
   simp only [Value.slice.injEq] at hform
   obtain ⟨rfl, -, rfl⟩ := hform
   have hgb := hown.lt gb rfl
   have hcell : wr.cell? ⟨gb, k, none⟩ = some (.int .u32 (iv x)) := by
    rw [hown.cellAt k (by omega), List.getElem?_map, mapTo_at f hx]; rfl
   have hfz : wr.frozen? ⟨gb, k, none⟩ = false := hown.frozenAt _
   have ST := hown.stored k (.int .u32 (iv (f x)))
   have S1 := hid (show (wr.setCell ⟨gb, k, none⟩ (.int .u32 (iv (f x)))).ownsRow w0.heap.size 58 1 (.slice (some ⟨gb, 0, none⟩) ks.length lcap) ks.length (((ks.take (k + 1)).map f ++ ks.drop (k + 1)).map enc) by
    rw [<- mapTo_next f hx, List.map_set]; exact ST.1)
   have S2 := hid (hnx.grown ST.2 hnx.size (fun j hj => by cases hj; exact hgb.1))
   rw [FF.out x] at S1 S2
   clear ST hown hnx hx
   go_wp2_with fail
   go_roundw
   case rel => exact ⟨k + 1, by omega, by go_num, S1.out, S2.out⟩
   case measure => simp [intOf]; omega
  ·have hkl2 : k = ks.length := by omega
   rw [List.take_of_length_le (by omega), List.drop_eq_nil_of_le (by omega), List.append_nil] at hown
   have R := hid (RdE.of_owns (f := enc) (xs := ks.map f) (by rw [List.length_map]; exact hown) (by rw [List.length_map]; omega))
   have HN := hid (B0.out.trans (hnx.mono hsz0))
   have hs2 := HN.out.size
   have RD := hid (RE.out (ks.map f) _ wr R.out (by rw [List.length_map]; omega))
   clear hown hnx hkl2
   go_wp2_with fail
   refine RD.out.mono ?_
   rintro e w4 ⟨v4, rfl, hown4, hb4⟩
   rw [DK.out] at hown4
   have O4 := hid (own_mono hown4 hs2)
   have B4 := hid (HN.out.trans (hb4.mono hs2))
   clear hown4 hb4
   go_wp2_with fail
   go_ret2
   exact ⟨_, rfl, O4.out, B4.out⟩

end Go.Proofs.YtalejolehccclaaGreatDoor
