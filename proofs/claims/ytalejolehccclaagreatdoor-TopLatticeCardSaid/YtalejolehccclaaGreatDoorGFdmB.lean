/- Texts that belong together, in one file. -/
import Derived.Test.YtalejolehccclaaGreatDoorGFdmA
import Derived.Test.YtalejolehccclaaGreatDoorGSmall
/- The walks of fdmine.All and agrees. -/
namespace Go.Proofs.YtalejolehccclaaGreatDoor
open Go.RowKit Go.Shelf Go.Lib
set_option linter.unusedVariables false

theorem RdF.nil (w : World) : RdF w (.slice none 0 0) [] := RdC.of_owns (xs := []) cF_length (World.ownsRow_nil (w := w) 0 0 2) (by simp)
set_option maxHeartbeats 1600000 in
set_option maxRecDepth 100000 in
theorem fbnd_any (t : T3) (av rv : Value) (most : Int) (w : World) (ht : RdT w av rv t) (hT : Tab w) (hok : fE t = 0 -> okT t) :
  Calls Tryz.prog 35 #[.agg #[.string t.1, av, rv], .int .i64 most] w fun e w' => ∃ v', e = .returned (.tuple #[v', .int .i64 (bE t most)]) /\ RdF w' v' (bndR t most) /\ Below w.heap.size w w' := by
 by_cases h0 : bE t most = 0
 ·obtain ⟨hE, n, rfl⟩ := bE_ok h0
  refine (fbnd_ok t av rv n w ht hT hE (hok hE)).mono ?_
  rintro e w' ⟨v', rfl, h1, h2⟩
  exact ⟨v', by rw [h0], by unfold bndR; rw [if_pos h0]; exact h1, h2⟩
 ·have BR : bndR t most = [] := by unfold bndR; rw [if_neg h0]
  rw [BR]
  have BE : bE t most = if fE t ≠ 0 then fE t else if most < 0 then 7 else 0 := rfl
  have hb0 := below_alloc w (.cells #[.string t.1, av, rv] 32)
  have C3 := hid (fun W h => cells3 (w := w) (a := .string t.1) (b := av) (c := rv) (t := 32) W h)
  have T0 := hid (ht.below hb0)
  obtain ⟨w0, hw0⟩ : ∃ w0 : World, w.alloc (.cells #[.string t.1, av, rv] 32) = w0 := ⟨_, rfl⟩
  rw [hw0] at hb0 C3 T0
  have B0 := hid hb0
  have W0 := hid hw0
  have hsz0 := hb0.size
  clear hb0 hw0
  have FA := hid (fun (W : World) (h : Below w0.heap.size w0 W) => flimits_any t av rv W (T0.out.below h))
  obtain ⟨nm, ats, rs⟩ := t
  obtain ⟨ao, acap, hva, -⟩ := T0.out.1.split
  simp only at hva FA
  subst hva
  generalize bE (nm, ats, rs) most = be at *
  generalize fE (nm, ats, rs) = fe at *
  obtain ⟨c0, c1, c2⟩ := C3.out _ (Below.refl _ _)
  clear ht hT hok BR
  by_cases hf : fe = 0
  ·subst hf
   rw [if_neg (by simp)] at BE
   have hm : most < 0 := by
    apply Classical.byContradiction
    intro h
    rw [if_neg h] at BE
    exact h0 BE
   rw [if_pos hm] at BE
   subst BE
   have i1 : decide (most < 0) = true := decide_eq_true hm
   clear hm h0
   go_enter Tryz.func35, Tryz.ntmps35
   go_wp2_with fail
   rw [W0.out]
   go_wp2_with fail
   refine (FA.out _ (Below.refl _ _)).mono ?_
   rintro e w1 ⟨rfl, hb1⟩
   have H1 := hid (B0.out.trans (hb1.mono hsz0))
   clear hb1 c0 c1 c2
   go_wp2_with fail
   go_ret2
   exact ⟨_, rfl, RdF.nil _, H1.out⟩
  ·rw [if_pos hf] at BE
   subst BE
   have hne : (be == 0) = false := beq_eq_false_iff_ne.2 hf
   have H0 := hid hf
   clear hf h0
   go_enter Tryz.func35, Tryz.ntmps35
   go_wp2_with fail
   rw [W0.out]
   go_wp2_with fail
   refine (FA.out _ (Below.refl _ _)).mono ?_
   rintro e w1 ⟨rfl, hb1⟩
   have H1 := hid (B0.out.trans (hb1.mono hsz0))
   clear hb1 c0 c1 c2
   go_wp2_with fail
   go_ret2
   exact ⟨_, rfl, RdF.nil _, H1.out⟩
noncomputable def allR (t : T3) : List F := if fE t = 0 then bndL t.2.1.length t.2.2 16 else []
theorem allR_bnd (t : T3) : bndR t 16 = allR t /\ bE t 16 = fE t := by
 have h : bE t 16 = fE t := by
  unfold bE
  by_cases h : fE t = 0
  ·rw [if_neg (by simpa using h), h]; rfl
  ·rw [if_pos h]
 refine ⟨?_, h⟩
 unfold bndR allR
 rw [h]; rfl
set_option maxRecDepth 100000 in
theorem fall_any (t : T3) (av rv : Value) (w : World) (ht : RdT w av rv t) (hT : Tab w) (hok : fE t = 0 -> okT t) :
  Calls Tryz.prog 10 #[.agg #[.string t.1, av, rv]] w fun e w' => ∃ v', e = .returned (.tuple #[v', .int .i64 (fE t)]) /\ RdF w' v' (allR t) /\ Below w.heap.size w w' := by
 have hb0 := below_alloc w (.cells #[.string t.1, av, rv] 32)
 have C3 := hid (fun W h => cells3 (w := w) (a := .string t.1) (b := av) (c := rv) (t := 32) W h)
 have T0 := hid (ht.below hb0)
 obtain ⟨w0, hw0⟩ : ∃ w0 : World, w.alloc (.cells #[.string t.1, av, rv] 32) = w0 := ⟨_, rfl⟩
 rw [hw0] at hb0 C3 T0
 have B0 := hid hb0
 have W0 := hid hw0
 have hsz0 := hb0.size
 clear hb0 hw0
 have HT0 := hid (hT.below B0.out)
 have FA := hid (fbnd_any t av rv 16 w0 T0.out HT0.out hok)
 rw [(allR_bnd t).1, (allR_bnd t).2] at FA
 obtain ⟨nm, ats, rs⟩ := t
 obtain ⟨ao, acap, hva, -⟩ := T0.out.1.split
 simp only at hva FA
 subst hva
 generalize allR (nm, ats, rs) = ar at *
 generalize fE (nm, ats, rs) = fe at *
 obtain ⟨c0, c1, c2⟩ := C3.out _ (Below.refl _ _)
 clear ht hT hok
 go_enter Tryz.func10, Tryz.ntmps10
 go_wp2_with fail
 rw [W0.out]
 go_wp2_with fail
 refine FA.out.mono ?_
 rintro e w1 ⟨v1, rfl, hr, hb1⟩
 have HR := hid hr
 have H1 := hid (B0.out.trans (hb1.mono hsz0))
 clear hb1 c0 c1 c2 hr
 go_wp2_with fail
 go_ret2
 exact ⟨_, rfl, HR.out, H1.out⟩

theorem run_neqV (x y : V3) (w : World) : (binOp .neq 89 (.agg #[.int .i64 x.1, .int .i64 x.2.1, .string x.2.2]) (.agg #[.int .i64 y.1, .int .i64 y.2.1, .string y.2.2])).run Tryz.prog w = .ok (.bool (!eqV x y)) w := by
 have u1 := Tryz.underlying3
 have a1 := Tryz.isAgg3
 have z1 := Tryz.sizeOf3
 have u2 := Tryz.underlying2
 have a2 := Tryz.isAgg2
 have z2 := Tryz.sizeOf2
 have u3 := Tryz.underlying9
 have a3 := Tryz.isAgg9
 have z3 := Tryz.sizeOf9
 have hS : Tryz.prog.underlying 89 = some (.struct (Tryz.prog.fieldsOf 89)) := by kernel_rfl
 have hp : Tryz.prog.stoodInHeld 89 = false := by kernel_rfl
 rw [run_neq_struct, show (10000 : Nat) = 9999 + 1 from rfl, run_equalIn_agg w 9999 89 _ _ hS hp]
 simp only [Program.fieldsOf, Tryz.underlying89]
 go_simp
 obtain ⟨x1, x2, x3⟩ := x
 obtain ⟨y1, y2, y3⟩ := y
 unfold eqV eqT
 by_cases h1 : x1 = y1 <;> by_cases h2 : x2 = y2 <;> by_cases h3 : x3.toList = y3.toList <;> simp [h1, h2, h3]
def agrB (xs ys : List V3) (s : S) : Bool := !((memN s 32).any fun a => !eqV (xs.getD a noV) (ys.getD a noV))
theorem agrB_agB {m : Nat} {xs ys : List V3} (hx : xs.length = m) (hy : ys.length = m) (h32 : m <= 32) {s : S} (hs : sub s (fullN m)) : agrB xs ys s = agB xs ys s := by
 rw [Bool.eq_iff_iff, agB_sub hx hy h32 hs]
 unfold agrB
 rw [Bool.not_eq_true', List.any_eq_false]
 constructor
 ·intro h i hi hb
  have := h i (mem_memN.2 ⟨hi, hb⟩)
  rw [rowsS_get _ _ _ _ hi, Bool.and_eq_true, decide_eq_true_iff]
  exact ⟨full_le hs hi hb, by simpa using this⟩
 ·intro h i hi
  obtain ⟨h1, h2⟩ := mem_memN.1 hi
  have := h i h1 h2
  rw [rowsS_get _ _ _ _ h1, Bool.and_eq_true] at this
  rw [this.2]; simp
theorem fagr1_any (a : Nat) (x y : V3) (xs ys : List V3) (u v : Value) (bu bv : Nat) (w : World) (hu : RdV w u xs) (hv : RdV w v ys) (hx : xs[a]? = some x) (hy : ys[a]? = some y)
  (hcu : w.cell? ⟨bu, 1, none⟩ = some u) (hcv : w.cell? ⟨bv, 1, none⟩ = some v) :
  Calls Tryz.prog 156 (#[.int .i64 (a : Int)] ++ #[.pointer (some ⟨bu, 0, none⟩), .pointer (some ⟨bv, 0, none⟩)]) w fun e w' => e = .returned (.bool (!eqV x y)) /\ Below w.heap.size w w' := by
 show Calls Tryz.prog 156 #[.int .i64 (a : Int), .pointer (some ⟨bu, 0, none⟩), .pointer (some ⟨bv, 0, none⟩)] w _
 obtain ⟨uo, ucap, rfl, -, huc⟩ := RdV.split hu
 obtain ⟨vo, vcap, rfl, -, hvc⟩ := RdV.split hv
 obtain ⟨b, off, rfl, hd⟩ := huc a x hx
 obtain ⟨b', off', rfl, hd'⟩ := hvc a y hy
 obtain ⟨e0, e1, e2⟩ := hd w (Below.refl _ _)
 obtain ⟨f0, f1, f2⟩ := hd' w (Below.refl _ _)
 have a0 : (0 : Int) <= (a : Int) := by omega
 have a1 : (a : Int) < (xs.length : Int) := by have := (List.getElem?_eq_some_iff.1 hx).1; omega
 have a2 : (a : Int) < (ys.length : Int) := by have := (List.getElem?_eq_some_iff.1 hy).1; omega
 have EQ := run_neqV x y
 generalize (!eqV x y) = r at *
 clear hu hv huc hvc hd hd' hx hy
 go_enter Tryz.func156, Tryz.ntmps156
 go_wp2_with fail
 go_quiet (fail)
 go_wp2_with fail
 go_ret
 exact ⟨rfl, below_drewN _ _ _⟩
set_option maxRecDepth 100000 in
theorem fagr_any (i j : Int) (xs ys : List V3) (u v : Value) (s : S) (w : World) (hu : RdV w u xs) (hv : RdV w v ys) (hT : Tab w) (hl : ys.length = xs.length) (hs : ∀ a ∈ memN s 32, a < xs.length) :
  Calls Tryz.prog 124 #[.agg #[.int .i64 i, u], .agg #[.int .i64 j, v], .int .u32 (iv s)] w fun e w' => e = .returned (.bool (agrB xs ys s)) /\ Below w.heap.size w w' := by
 have hb1 := below_alloc w (.cells #[.int .i64 i, u] 87)
 have C1 := hid (fun W h => cells2 (w := w) (a := .int .i64 i) (b := u) (t := 87) W h)
 obtain ⟨w1, hw1⟩ : ∃ w1 : World, w.alloc (.cells #[.int .i64 i, u] 87) = w1 := ⟨_, rfl⟩
 rw [hw1] at hb1 C1
 have hs1 : w1.heap.size = w.heap.size + 1 := by rw [<- hw1]; simp
 have hb2 := below_alloc w1 (.cells #[.int .i64 j, v] 87)
 have C2 := hid (fun W h => cells2 (w := w1) (a := .int .i64 j) (b := v) (t := 87) W h)
 obtain ⟨w2, hw2⟩ : ∃ w2 : World, w1.alloc (.cells #[.int .i64 j, v] 87) = w2 := ⟨_, rfl⟩
 rw [hw2] at hb2 C2
 have B2 := hid (hb1.trans (hb2.mono hb1.size))
 have CC := hid (fun (W : World) (h : Below w2.heap.size w2 W) => (⟨(C1.out W (hb2.trans (h.mono hb2.size))).2, by have := (C2.out W h).2; rwa [hs1] at this⟩ : W.cell? ⟨w.heap.size, 1, none⟩ = some u /\ W.cell? ⟨w.heap.size + 1, 1, none⟩ = some v))
 have WW := hid (show (w.alloc (.cells #[.int .i64 i, u] 87)).alloc (.cells #[.int .i64 j, v] 87) = w2 by rw [hw1, hw2])
 have U := hid (RdC.below hu B2.out)
 have V := hid (RdC.below hv B2.out)
 have MM := hid (amembers_any s w2 (hT.below B2.out))
 have HML := hid (memN_length s 32)
 have CF := hid (fun (mv : Value) (W : World) (h : Below w2.heap.size w2 W) (hm : RdE encJ W mv ((memN s 32).map fun n : Nat => (n : Int))) => containsI_any 156 #[.pointer (some ⟨w.heap.size, 0, none⟩), .pointer (some ⟨w.heap.size + 1, 0, none⟩)] (fun a => !eqV (xs.getD a.toNat noV) (ys.getD a.toNat noV)) _ mv W W (Below.refl _ _) hm
  (enters _ _ _ Tryz.func156 (by kernel_rfl) rfl) (fun x hx W2 hW2 => by
   obtain ⟨n, hn, rfl⟩ := List.mem_map.1 hx
   have h1 := hs n hn
   obtain ⟨p, hp⟩ := get_some h1
   obtain ⟨q, hq⟩ := get_some (show n < ys.length by omega)
   have hB := h.trans (hW2.mono h.size)
   have := fagr1_any n p q xs ys u v w.heap.size (w.heap.size + 1) W2 (RdC.below U.out hB) (RdC.below V.out hB) hp hq (CC.out _ hB).1 (CC.out _ hB).2
   rw [show (xs.getD ((n : Int)).toNat noV) = p by rw [Int.toNat_natCast]; exact getD_at _ hp, show (ys.getD ((n : Int)).toNat noV) = q by rw [Int.toNat_natCast]; exact getD_at _ hq]
   exact this))
 have AG := hid (show agrB xs ys s = !(((memN s 32).map fun n : Nat => (n : Int)).any fun a => !eqV (xs.getD a.toNat noV) (ys.getD a.toNat noV)) by unfold agrB; rw [List.any_map]; rfl)
 rw [AG.out]
 have ME := hid (show (memN s 32).map encI = ((memN s 32).map fun n : Nat => (n : Int)).map encJ by rw [List.map_map]; rfl)
 generalize memN s 32 = ms at *
 generalize ((ms.map fun n : Nat => (n : Int)).any fun a => !eqV (xs.getD a.toNat noV) (ys.getD a.toNat noV)) = r at *
 clear hb1 hb2 C1 C2 hw1 hw2 hs1 hu hv hs AG
 unfold enc at MM
 go_enter Tryz.func124, Tryz.ntmps124
 go_wp2_with fail
 rw [WW.out]
 go_wp2_with fail
 refine MM.out.mono ?_
 rintro e w3 ⟨v3, rfl, ho3, hb3⟩
 have R3 := hid (RdE.of_owns (f := encJ) (xs := ms.map fun n : Nat => (n : Int)) (by rw [<- ME.out, List.length_map]; exact ho3) (by rw [List.length_map]; have := HML.out; omega))
 have H3 := hid hb3
 obtain ⟨mo, mn, mcap, rfl⟩ := own_sliceN ho3
 clear ho3 hb3
 go_wp2_with fail
 refine (CF.out _ _ H3.out R3.out).mono ?_
 rintro e w4 ⟨rfl, hb4⟩
 have H4 := hid (B2.out.trans ((H3.out.trans (hb4.mono H3.out.size)).mono B2.out.size))
 clear hb4
 go_wp2_with fail
 go_ret
 exact ⟨rfl, H4.out⟩

end Go.Proofs.YtalejolehccclaaGreatDoor

/- The walk of fdmine.first. -/
namespace Go.Proofs.YtalejolehccclaaGreatDoor
open Go.RowKit
set_option linter.unusedVariables false

def prs : List Row3 -> List (Row3 × Row3)
 | [] => []
 | r :: rs => rs.map (fun q => (r, q)) ++ prs rs
theorem prs_at {rs : List Row3} {i : Nat} {r : Row3} (h : rs[i]? = some r) : prs (rs.drop i) = (rs.drop (i + 1)).map (fun q => (r, q)) ++ prs (rs.drop (i + 1)) := by rw [drop_at h]; rfl
def wP (a : Nat) (s : S) (p : Row3 × Row3) : Bool := !eqV (p.1.2.2.getD a noV) (p.2.2.2.getD a noV) && agrB p.1.2.2 p.2.2.2 s
def fstP : Option (Row3 × Row3) -> Int × Int
 | some p => (p.1.1, p.2.1)
 | none => (0, 0)
def fstW (rs : List Row3) (a : Nat) (s : S) : Int × Int := fstP ((prs rs).find? (wP a s))

attribute [local irreducible] Go.wpQuiet
set_option maxHeartbeats 3200000 in
set_option maxRecDepth 100000 in
theorem ffirst_any (t : T3) (av rv : Value) (s : S) (a : Nat) (w : World) (ht : RdT w av rv t) (hT : Tab w) (hk : tabE2 t = 0) (ha : a < t.2.1.length) (hs : sub s (fullN t.2.1.length)) :
  Calls Tryz.prog 72 #[.agg #[.string t.1, av, rv], .int .u32 (iv s), .int .i64 (a : Int)] w fun e w' => e = .returned (.tuple #[.int .i64 (fstW t.2.2 a s).1, .int .i64 (fstW t.2.2 a s).2]) /\ Below w.heap.size w w' := by
 have hb0 := below_alloc w (.cells #[.string t.1, av, rv] 32)
 have C3 := hid (fun W h => cells3 (w := w) (a := .string t.1) (b := av) (c := rv) (t := 32) W h)
 have T0 := hid (ht.below hb0)
 obtain ⟨w0, hw0⟩ : ∃ w0 : World, w.alloc (.cells #[.string t.1, av, rv] 32) = w0 := ⟨_, rfl⟩
 rw [hw0] at hb0 C3 T0
 have B0 := hid hb0
 have W0 := hid hw0
 have hsz0 := hb0.size
 clear hb0 hw0
 obtain ⟨h16, h200, hrows⟩ := tabE2_ok hk
 have HT0 := hid (hT.below B0.out)
 obtain ⟨nm, ats, rs⟩ := t
 replace h16 : ats.length <= 16 := h16
 replace h200 : rs.length <= 200 := h200
 replace ha : a < ats.length := ha
 have HR := hid (show ∀ r ∈ rs, r.2.2.length = ats.length from fun r hr => (hrows r hr).1)
 have HMS := hid (show ∀ b ∈ memN s 32, b < ats.length from fun b hb => full_le hs (mem_memN.1 hb).1 (mem_memN.1 hb).2)
 obtain ⟨ro, rcap, rfl, hrl, hrc⟩ := RdR.split T0.out.2
 have RC := hid hrc
 have hcap : rs.length <= rcap := by
  obtain ⟨⟨ao, cap, e, h1, _⟩, _⟩ := T0.out.2
  cases e; exact h1
 have RA := hid (fun (i j : Int) (xs ys : List V3) (u v : Value) (W : World) (h : Below w0.heap.size w0 W) (hu : RdV W u xs) (hv : RdV W v ys) (hl : ys.length = xs.length) (hx : xs.length = ats.length) => fagr_any i j xs ys u v s W hu hv (HT0.out.below h) hl (fun b hb => by rw [hx]; exact HMS.out b hb))
 have SQ := hid (fun (i : Nat) (r : Row3) (h : rs[i]? = some r) => prs_at h)
 show Calls _ _ _ _ fun e w' => e = .returned (.tuple #[.int .i64 (fstW rs a s).1, .int .i64 (fstW rs a s).2]) /\ Below w.heap.size w w'
 have WP := hid (fun (r q : Row3) => show wP a s (r, q) = (!eqV (r.2.2.getD a noV) (q.2.2.getD a noV) && agrB r.2.2 q.2.2 s) from rfl)
 obtain ⟨P, hP⟩ : ∃ P, wP a s = P := ⟨_, rfl⟩
 rw [hP] at WP
 have FW := hid (show fstW rs a s = fstP ((prs rs).find? P) by unfold fstW; rw [hP])
 rw [FW.out]
 obtain ⟨Q, hQ⟩ : ∃ Q, (prs rs).find? P = Q := ⟨_, rfl⟩
 have HQ0 := hid hQ
 rw [hQ]
 have PN := hid (show prs [] = [] from rfl)
 obtain ⟨t00, t01, t02⟩ := C3.out _ (Below.refl _ _)
 have a0 : (0 : Int) <= (a : Int) := by omega
 have HA := hid ha
 clear hk ht hT hrows hrc hQ hP hs ha FW
 go_enter Tryz.func72, Tryz.ntmps72
 go_wp2_with fail
 rw [W0.out]
 go_wp2_with fail
 go_loopw [15] (fun i wr => ∃ k : Nat, k <= rs.length /\ i = .int .i64 k /\ Hid ((prs (rs.drop k)).find? P = Q) /\ Below w0.heap.size w0 wr) (fun i _ => rs.length - (intOf i).toNat)
 case atStart => exact ⟨0, Nat.zero_le _, rfl, HQ0, Below.refl _ _⟩
 case round =>
  obtain ⟨i, hk, rfl, HP, hnx⟩ := hrel
  have hsz := hnx.size
  obtain ⟨e0, e1, e2⟩ := C3.out _ hnx
  have i0 : (0 : Int) <= (i : Int) := by omega
  by_cases hlt : i < rs.length
  ·obtain ⟨⟨rid, ru, rvs⟩, hr⟩ := get_some hlt
   obtain ⟨⟨b, off, rfl, hd⟩, hvs⟩ := RC.out i _ hr
   have HR1 := hid (HR.out _ (List.mem_of_getElem? hr))
   have HP2 := hid (show ((rs.drop (i + 1)).map (fun q => ((rid, ru, rvs), q)) ++ prs (rs.drop (i + 1))).find? P = Q by rw [<- SQ.out i _ hr]; exact HP.out)
   have VS := hid (fun (W : World) (h : Below w0.heap.size w0 W) => show RdV W ru rvs from hvs W h)
   obtain ⟨uo, ucap, rfl, -, huc⟩ := RdV.split (VS.out wr hnx)
   obtain ⟨x, hx⟩ := get_some (show a < rvs.length by have h1 : rvs.length = ats.length := HR1.out; have h2 := HA.out; omega)
   obtain ⟨xb, xoff, rfl, hxd⟩ := huc a x hx
   obtain ⟨wo, rfl⟩ : ∃ wo : World, wo = wr := ⟨_, rfl⟩
   have hba := below_alloc wo (.cells #[.int .i64 rid, .slice (some ⟨xb, xoff, none⟩) rvs.length ucap] 87)
   have hnx1 := hnx.trans (hba.mono hsz)
   obtain ⟨f0, f1⟩ := hd wo hnx
   have CA := hid (fun (W : World) h => cells2 (w := wo) (a := .int .i64 rid) (b := .slice (some ⟨xb, xoff, none⟩) rvs.length ucap) (t := 87) W h)
   obtain ⟨wa, hwa⟩ : ∃ wa : World, wo.alloc (.cells #[.int .i64 rid, .slice (some ⟨xb, xoff, none⟩) rvs.length ucap] 87) = wa := ⟨_, rfl⟩
   have hsa : wa.heap.size = wo.heap.size + 1 := by rw [<- hwa]; simp
   rw [hwa] at hba hnx1 CA
   have WA := hid hwa
   have NA := hid hnx1
   have XD := hid (fun (W : World) (h : Below wo.heap.size wo W) => hxd W h)
   have XG := hid (show rvs.getD a noV = x from getD_at _ hx)
   have HBA := hid hba
   have HSA := hid hsa
   obtain ⟨k0, k1, k2⟩ := C3.out _ hnx1
   clear hd hvs hr hba hnx hnx1 HP huc hxd hx hwa hsa
   by_cases hlast : i + 1 = rcap
   ·have hn1 : rs.length = i + 1 := by omega
    have HP3 := hid (show (prs (rs.drop (i + 1))).find? P = Q by have h := HP2.out; rw [List.drop_eq_nil_of_le (show rs.length <= i + 1 by omega)] at h ⊢; simpa using h)
    have HN1 := hid hn1
    have hsub : rs.length - (i + 1) = 0 := by omega
    have hcc : (i : Int) + 1 = (rcap : Int) := by omega
    clear hlast hn1
    go_upto_region 4 with fail
    rw [WA.out]
    go_wp2_with fail
    go_loopw [26] (fun j wr => j = .int .i64 0 /\ Below w0.heap.size w0 wr) (fun _ _ => 0)
    case atStart => exact ⟨rfl, NA.out⟩
    case round =>
     obtain ⟨rfl, hnx⟩ := hrel
     have NX := hid hnx
     have hlt0 := HN1.out
     clear hnx
     go_wp2_with fail
     go_roundw
     case rel => exact ⟨i + 1, by omega, by go_num, HP3, NX.out⟩
     case measure => simp [intOf]; omega
   ·have hlast2 : i + 1 < rcap := by omega
    obtain ⟨N, hN⟩ : ∃ N, rs.length - (i + 1) = N := ⟨_, rfl⟩
    have HN := hid hN
    have hNb : N <= 200 := by omega
    have HLT := hid hlt
    clear hlast
    go_upto_region 4 with fail
    rw [WA.out]
    go_wp2_with fail
    clear hN
    go_loopw [26] (fun j wr => ∃ k : Nat, k <= N /\ j = .int .i64 k /\ Hid ((((rs.drop (i + 1)).drop k).map (fun q => ((rid, Value.slice (some ⟨xb, xoff, none⟩) rvs.length ucap, rvs), q)) ++ prs (rs.drop (i + 1))).find? P = Q) /\ Below wa.heap.size wa wr) (fun j _ => N - (intOf j).toNat)
    case atStart => exact ⟨0, Nat.zero_le _, rfl, HP2, Below.refl _ _⟩
    case round =>
     obtain ⟨k, hk2, rfl, HP4, hnx2⟩ := hrel
     have hsz2 := hnx2.size
     have j0 : (0 : Int) <= (k : Int) := by omega
     have NXW := hid (show Below w0.heap.size w0 wr from NA.out.trans (hnx2.mono NA.out.size))
     by_cases hlt2 : k < N
     ·obtain ⟨⟨qid, qu, qvs⟩, hq⟩ := get_some (show i + 1 + k < rs.length by have := HN.out; omega)
      have hqd : (rs.drop (i + 1))[k]? = some (qid, qu, qvs) := by rw [List.getElem?_drop]; exact hq
      have HK2 := hid hlt2
      have HR2 := hid (HR.out _ (List.mem_of_getElem? hq))
      obtain ⟨⟨b', off', hbb, hd'⟩, hvs'⟩ := RC.out (i + 1 + k) _ hq
      cases hbb
      have VS2 := hid (fun (W : World) (h : Below w0.heap.size w0 W) => show RdV W qu qvs from hvs' W h)
      obtain ⟨vo, vcap, rfl, -, hvc⟩ := RdV.split (VS2.out wr NXW.out)
      obtain ⟨y, hy⟩ := get_some (show a < qvs.length by have h1 : qvs.length = ats.length := HR2.out; have h2 := HA.out; omega)
      obtain ⟨yb, yoff, rfl, hyd⟩ := hvc a y hy
      have g := hd' wr NXW.out
      rw [show off + (i + 1 + k) * 2 = off + (i + 1) * 2 + k * 2 by omega] at g
      obtain ⟨g0, g1⟩ := g
      have hbq := below_alloc wr (.cells #[.int .i64 qid, .slice (some ⟨yb, yoff, none⟩) qvs.length vcap] 87)
      obtain ⟨o0', o1'⟩ := cells2 (w := wr) (a := .int .i64 qid) (b := .slice (some ⟨yb, yoff, none⟩) qvs.length vcap) (t := 87) _ (Below.refl _ _)
      obtain ⟨wq, hwq⟩ : ∃ wq : World, wr.alloc (.cells #[.int .i64 qid, .slice (some ⟨yb, yoff, none⟩) qvs.length vcap] 87) = wq := ⟨_, rfl⟩
      rw [hwq] at hbq o0' o1'
      have hnx3 := NXW.out.trans (hbq.mono NXW.out.size)
      have NX3 := hid hnx3
      have NA3 := hid (show Below wa.heap.size wa wq from hnx2.trans (hbq.mono hsz2))
      have hsz3 := hnx3.size
      have WQ := hid hwq
      have CX := hid (fun (x : After wq) => Calls.after x (RA.out rid qid rvs qvs _ _ x.world (NX3.out.trans (x.below.mono hsz3)) (VS.out _ (NX3.out.trans (x.below.mono hsz3))) (VS2.out _ (NX3.out.trans (x.below.mono hsz3))) (by rw [HR1.out, HR2.out]) HR1.out))
      have YG := hid (show qvs.getD a noV = y from getD_at _ hy)
      have WPX := hid (show P ((rid, Value.slice (some ⟨xb, xoff, none⟩) rvs.length ucap, rvs), (qid, Value.slice (some ⟨yb, yoff, none⟩) qvs.length vcap, qvs)) = (!eqV x y && agrB rvs qvs s) by rw [WP.out, XG.out, YG.out])
      have HP5 := hid (show (((qid, Value.slice (some ⟨yb, yoff, none⟩) qvs.length vcap, qvs) :: ((rs.drop (i + 1)).drop (k + 1))).map (fun q => ((rid, Value.slice (some ⟨xb, xoff, none⟩) rvs.length ucap, rvs), q)) ++ prs (rs.drop (i + 1))).find? P = Q by rw [<- drop_at hqd]; exact HP4.out)
      obtain ⟨q0, q1⟩ := CA.out wq NA3.out
      obtain ⟨x0, x1, x2⟩ := XD.out wq (HBA.out.trans (NA3.out.mono (by have := HSA.out; omega)))
      obtain ⟨y0, y1, y2⟩ := hyd wq hbq
      have n0 : ∀ z : After wq, z.world.cell? ⟨wo.heap.size, 0, none⟩ = some (.int .i64 rid) := fun z => After.cell q0 z
      have n1 : ∀ z : After wq, z.world.cell? ⟨wo.heap.size, 1, none⟩ = some (.slice (some ⟨xb, xoff, none⟩) rvs.length ucap) := fun z => After.cell q1 z
      have o0 : ∀ z : After wq, z.world.cell? ⟨wr.heap.size, 0, none⟩ = some (.int .i64 qid) := fun z => After.cell o0' z
      have o1 : ∀ z : After wq, z.world.cell? ⟨wr.heap.size, 1, none⟩ = some (.slice (some ⟨yb, yoff, none⟩) qvs.length vcap) := fun z => After.cell o1' z
      have u0 := fun z : After wq => After.cell x0 z
      have u1 := fun z : After wq => After.cell x1 z
      have u2 := fun z : After wq => After.cell x2 z
      have v0 := fun z : After wq => After.cell y0 z
      have v1 := fun z : After wq => After.cell y1 z
      have v2 := fun z : After wq => After.cell y2 z
      have ax : (a : Int) < (rvs.length : Int) := by have h1 : rvs.length = ats.length := HR1.out; have h2 := HA.out; omega
      have ay : (a : Int) < (qvs.length : Int) := by have h1 : qvs.length = ats.length := HR2.out; have h2 := HA.out; omega
      have EQ := run_neqV x y
      clear hq hqd hd' hvs' hvc hyd hy hbq hnx3 hnx2 HP4 hwq
      go_upto_region 7 with fail
      rw [WQ.out]
      cases hD : eqV x y with
      | true =>
       rw [hD] at EQ WPX
       have HPN := hid (show (((rs.drop (i + 1)).drop (k + 1)).map (fun q => ((rid, Value.slice (some ⟨xb, xoff, none⟩) rvs.length ucap, rvs), q)) ++ prs (rs.drop (i + 1))).find? P = Q by
        have h := HP5.out
        rw [List.map_cons, List.cons_append, List.find?_cons, WPX.out] at h
        exact h)
       clear hD CX
       simp only [Bool.not_true] at EQ
       refine wp_region_after (by kernel_rfl) (by kernel_rfl) ?_
       repeat (any_goals (quiet_step (fail)))
       refine wpQuiet_nil ?_
       intro wz hbz
       have BZ := hid (NA3.out.trans (hbz.mono NA3.out.size))
       clear hbz n0 n1 o0 o1 u0 u1 u2 v0 v1 v2 q0 q1 x0 x1 x2 y0 y1 y2 o0' o1' EQ
       go_wp2_with fail
       go_roundw
       case rel => exact ⟨k + 1, by have := HK2.out; omega, by go_num, HPN, BZ.out⟩
       case measure => have := HK2.out; simp [intOf]; omega
      | false =>
       rw [hD] at EQ WPX
       simp only [Bool.not_false, Bool.true_and] at EQ WPX
       clear hD
       cases hA : agrB rvs qvs s with
       | false =>
        rw [hA] at CX WPX
        have HPN := hid (show (((rs.drop (i + 1)).drop (k + 1)).map (fun q => ((rid, Value.slice (some ⟨xb, xoff, none⟩) rvs.length ucap, rvs), q)) ++ prs (rs.drop (i + 1))).find? P = Q by
         have h := HP5.out
         rw [List.map_cons, List.cons_append, List.find?_cons, WPX.out] at h
         exact h)
        clear hA
        refine wp_region_after (by kernel_rfl) (by kernel_rfl) ?_
        repeat (any_goals (quiet_step (exact CX.out _)))
        refine wpQuiet_nil ?_
        intro wz hbz
        have BZ := hid (NA3.out.trans (hbz.mono NA3.out.size))
        clear hbz n0 n1 o0 o1 u0 u1 u2 v0 v1 v2 q0 q1 x0 x1 x2 y0 y1 y2 o0' o1' EQ CX
        go_wp2_with fail
        go_roundw
        case rel => exact ⟨k + 1, by have := HK2.out; omega, by go_num, HPN, BZ.out⟩
        case measure => have := HK2.out; simp [intOf]; omega
       | true =>
        rw [hA] at CX WPX
        have QV := hid (show fstP Q = (rid, qid) by
         have h := HP5.out
         rw [List.map_cons, List.cons_append, List.find?_cons, WPX.out] at h
         rw [<- h]; rfl)
        clear hA
        refine wp_region_after (by kernel_rfl) (by kernel_rfl) ?_
        repeat (any_goals (quiet_step (exact CX.out _)))
        refine wpQuiet_nil ?_
        intro wz hbz
        have r0 := (hbz.cell (p := ⟨wo.heap.size, 0, none⟩) (World.block_lt_of_cell? _ _ q0)).trans q0
        have r1 := (hbz.cell (p := ⟨wr.heap.size, 0, none⟩) (World.block_lt_of_cell? _ _ o0')).trans o0'
        have BZ := hid (B0.out.trans ((NX3.out.trans (hbz.mono hsz3)).mono hsz0))
        clear hbz n0 n1 o0 o1 u0 u1 u2 v0 v1 v2 q0 q1 x0 x1 x2 y0 y1 y2 o0' o1' EQ CX
        go_wp2_with fail
        go_quiet (fail)
        go_wp2_with fail
        go_ret2
        exact ⟨by rw [QV.out]; rfl, below_drewN' BZ.out _⟩
     ·have hke : N <= k := by omega
      have HPN := hid (show (prs (rs.drop (i + 1))).find? P = Q by
       have h := HP4.out
       rw [List.drop_eq_nil_of_le (show (rs.drop (i + 1)).length <= k by rw [List.length_drop]; have := HN.out; omega)] at h
       simpa using h)
      have NW := hid NXW.out
      clear hnx2 HP4 hke
      go_wp2_with fail
      go_roundw
      case rel => exact ⟨i + 1, by have := HLT.out; omega, by go_num, HPN, NW.out⟩
      case measure => have := HLT.out; simp [intOf]; omega
  ·have QV := hid (show fstP Q = (0, 0) by
    have h := HP.out
    rw [List.drop_eq_nil_of_le (show rs.length <= i by omega), PN.out] at h
    rw [<- h]; rfl)
   have BF := hid (B0.out.trans (hnx.mono hsz0))
   clear HP hnx
   go_wp2_with fail
   go_ret2
   exact ⟨by rw [QV.out]; rfl, BF.out⟩

end Go.Proofs.YtalejolehccclaaGreatDoor

/- The walk of fdmine.Evidence. -/
namespace Go.Proofs.YtalejolehccclaaGreatDoor
open Go.RowKit
set_option linter.unusedVariables false

theorem faE_ar {t : T3} {a : Int} (h : faE t a = 0) : arityE t a = 0 := by
 obtain ⟨h1, n, rfl, hn⟩ := faE_ok h
 have h2 := fE_tab h1
 unfold arityE
 rw [if_neg (by simpa using h2), if_neg (by omega)]
theorem maxL_sub {t : T3} {a : Int} (h : fE t = 0) {s : S} (hs : s ∈ maxL t a) : sub s (fullN t.2.1.length) := by
 have h2 := fE_tab h
 unfold maxL at hs
 split at hs
 ·have h3 := ((max_ord _).2 s).1 hs
  have h4 := (mem_withoutS.1 h3.1).1
  exact pair_full (fun r hr => ((tabE2_ok h2).2.2 r hr).1) (by have := (tabE2_ok h2).1; omega) h4
 ·cases hs
theorem maxL_len2 (t : T3) (a : Int) (h : t.2.2.length <= 200) : (maxL t a).length <= 40000 := by
 unfold maxL
 split
 ·refine Nat.le_trans (keepS_length _ _) (Nat.le_trans (List.length_filter_le _ _) (Nat.le_trans (pairsS_length _) (Nat.mul_le_mul h h)))
 ·simp
def evdR (t : T3) (a : Int) : List W3 := if faE t a = 0 then (maxL t a).map fun s => (s, fstW t.2.2 a.toNat s) else []
theorem RdW.nil (w : World) : RdW w (.slice none 0 0) [] := RdC.of_owns (xs := []) cW_length (World.ownsRow_nil (w := w) 0 0 3) (by simp)

set_option maxHeartbeats 3200000 in
set_option maxRecDepth 100000 in
theorem fevd_any (t : T3) (av rv : Value) (a : Int) (w : World) (ht : RdT w av rv t) (hT : Tab w) :
  Calls Tryz.prog 27 #[.agg #[.string t.1, av, rv], .int .i64 a] w fun e w' => ∃ v', e = .returned (.tuple #[v', .int .i64 (faE t a)]) /\ RdW w' v' (evdR t a) /\ Below w.heap.size w w' := by
 have hb0 := below_alloc w (.cells #[.string t.1, av, rv] 32)
 have C3 := hid (fun W h => cells3 (w := w) (a := .string t.1) (b := av) (c := rv) (t := 32) W h)
 have T0 := hid (ht.below hb0)
 obtain ⟨w0, hw0⟩ : ∃ w0 : World, w.alloc (.cells #[.string t.1, av, rv] 32) = w0 := ⟨_, rfl⟩
 rw [hw0] at hb0 C3 T0
 have B0 := hid hb0
 have W0 := hid hw0
 have hsz0 := hb0.size
 clear hb0 hw0
 have HT0 := hid (hT.below B0.out)
 have FA := hid (fun (W : World) (h : Below w0.heap.size w0 W) => fattr_any t av rv a W (T0.out.below h))
 have AM := hid (fun (W : World) (h : Below w0.heap.size w0 W) => amaxR t av rv a W (T0.out.below h))
 obtain ⟨c0, c1, c2⟩ := C3.out _ (Below.refl _ _)
 by_cases h0 : faE t a = 0
 ·obtain ⟨hE, n, rfl, hn⟩ := faE_ok h0
  have hE2 := fE_tab hE
  rw [h0] at FA
  rw [faE_ar h0] at AM
  have EV : evdR t (n : Int) = (maxL t (n : Int)).map fun s => (s, fstW t.2.2 n s) := by unfold evdR; rw [if_pos h0]; rfl
  rw [h0, EV]
  have FI := hid (fun (s : S) (hs : s ∈ maxL t (n : Int)) (W : World) (h : Below w0.heap.size w0 W) => ffirst_any t av rv s n W (T0.out.below h) (HT0.out.below h) hE2 hn (maxL_sub hE hs))
  have ML := hid (maxL_len2 t (n : Int) (tabE2_ok hE2).2.1)
  obtain ⟨nm, ats, rs⟩ := t
  simp only at FA AM FI
  obtain ⟨FS, hFS⟩ : ∃ FS : S -> Int × Int, (fun s => fstW rs n s) = FS := ⟨_, rfl⟩
  have HFS := hid (fun s => show fstW rs n s = FS s by rw [<- hFS])
  simp only [HFS.out] at FI ⊢
  generalize maxL (nm, ats, rs) (n : Int) = ML0 at *
  clear ht hT h0 hE hE2 hFS hn EV
  go_enter Tryz.func27, Tryz.ntmps27
  go_wp2_with fail
  rw [W0.out]
  go_wp2_with fail
  refine (FA.out _ (Below.refl _ _)).mono ?_
  rintro e w1 ⟨rfl, hb1⟩
  have D1 := hid hb1
  clear hb1 c0 c1 c2
  obtain ⟨c0, c1, c2⟩ := C3.out _ D1.out
  go_wp2_with fail
  refine (AM.out _ D1.out).mono ?_
  rintro e w2 ⟨v2, rfl, hr2, hb2⟩
  have D2 := hid (D1.out.trans (hb2.mono D1.out.size))
  obtain ⟨mo, mcap, rfl, -, hmc⟩ := hr2.split
  have MC := hid hmc
  clear hb2 hr2 hmc c0 c1 c2
  go_wp2_with fail
  go_loopw [9, 31] (fun u i wr => ∃ k : Nat, k <= ML0.length /\ i = .int .i64 k /\ wr.ownsRow w2.heap.size 60 3 u ((ML0.take k).map fun s => (s, FS s)).length (((ML0.take k).map fun s => (s, FS s)).flatMap cW) /\ Below w2.heap.size w2 wr) (fun _ i _ => ML0.length - (intOf i).toNat)
  case atStart => exact ⟨0, Nat.zero_le _, rfl, World.ownsRow_nil _ _ _ _, Below.refl _ _⟩
  case round =>
   obtain ⟨k, hk, rfl, hown, hnx⟩ := hrel
   have hsz := hnx.size
   have k0 : (0 : Int) <= (k : Int) := by omega
   have kn : (k : Int) <= 40000 := by have := ML.out; omega
   have NXW := hid (show Below w0.heap.size w0 wr from D2.out.trans (hnx.mono D2.out.size))
   by_cases hlt : k < ML0.length
   ·obtain ⟨x, hx⟩ := get_some hlt
    obtain ⟨b, off, rfl, hd⟩ := MC.out k x hx
    have e0 := hd wr hnx
    unfold enc at e0
    have F1 := hid (FI.out x (List.mem_of_getElem? hx) wr NXW.out)
    have SN := hid (show ((ML0.take (k + 1)).map fun s => (s, FS s)) = ((ML0.take k).map fun s => (s, FS s)) ++ [(x, FS x)] by rw [take_next hx, List.map_append]; rfl)
    obtain ⟨out, hout⟩ : ∃ out : List W3, ((ML0.take k).map fun s => (s, FS s)) = out := ⟨_, rfl⟩
    have OLE := hid (show out.length <= 40000 by rw [<- hout, List.length_map]; have := List.length_take_le k ML0; have := ML.out; omega)
    rw [hout] at hown SN
    obtain ⟨fa, fb⟩ : ∃ fa, fa = (FS x).1 := ⟨_, rfl⟩
    obtain ⟨fc, fd⟩ : ∃ fc, fc = (FS x).2 := ⟨_, rfl⟩
    rw [<- fb, <- fd] at F1
    have FX := hid (show (x, FS x) = (x, fa, fc) by rw [fb, fd])
    rw [FX.out] at SN
    have HLT := hid hlt
    have HO := hid hown
    have HNX := hid hnx
    obtain ⟨t0, t1, t2⟩ := C3.out _ NXW.out
    clear hown hnx hd hx hout hlt fb fd
    go_wp2_with fail
    refine F1.out.mono ?_
    rintro e w3 ⟨rfl, hb3⟩
    have hown3 := own_below HO.out hb3
    have hn3 := HNX.out.trans (hb3.mono hsz)
    have hsz3 := hn3.size
    clear hb3 t0 t1 t2
    go_wp2_with (at_builtin; refine wpList_pushC rfl _ _ 50 rfl w2.heap.size 60 (.agg #[.int .u32 0, .int .i64 0, .int .i64 0]) 3 24 undWs infoW rfl (by decide) (by decide) cW cW_length cW_one _ out rfl (hown3.alloc _) ⟨w3.heap.size, 0, none⟩ (x, fa, fc) rfl (cells_newW _ _) (by have := OLE.out; omega) (by simp; omega) ?_)
    intro v' w4 hown' hgrow
    have N4 := hid (below_push hn3 hsz3 hown3 hgrow)
    have O4 := hid (show w4.ownsRow w2.heap.size 60 3 v' ((ML0.take (k + 1)).map fun s => (s, FS s)).length (((ML0.take (k + 1)).map fun s => (s, FS s)).flatMap cW) by rw [SN.out]; simpa using hown')
    clear hown' hgrow hown3 hn3
    go_wp2_with fail
    go_roundw
    case rel => exact ⟨k + 1, by have := HLT.out; omega, by go_num, O4.out, N4.out⟩
    case measure => have := HLT.out; simp [intOf]; omega
   ·have hke : ML0.length <= k := by omega
    rw [List.take_of_length_le hke] at hown
    have RW := hid (RdC.of_owns cW_length hown (by rw [List.length_map]; have := ML.out; omega))
    have BF := hid (B0.out.trans (NXW.out.mono hsz0))
    clear hown hnx hke
    go_wp2_with fail
    go_ret2
    exact ⟨_, rfl, RW.out, BF.out⟩
 ·have EV : evdR t a = [] := by unfold evdR; rw [if_neg h0]
  rw [EV]
  obtain ⟨nm, ats, rs⟩ := t
  simp only at FA AM
  generalize faE (nm, ats, rs) a = ke at *
  have hne : (ke == 0) = false := beq_eq_false_iff_ne.2 h0
  have H0 := hid h0
  clear ht hT h0 EV AM
  go_enter Tryz.func27, Tryz.ntmps27
  go_wp2_with fail
  rw [W0.out]
  go_wp2_with fail
  refine (FA.out _ (Below.refl _ _)).mono ?_
  rintro e w1 ⟨rfl, hb1⟩
  have H1 := hid (B0.out.trans (hb1.mono hsz0))
  clear hb1 c0 c1 c2
  go_wp2_with fail
  go_ret2
  exact ⟨_, rfl, RdW.nil _, H1.out⟩

end Go.Proofs.YtalejolehccclaaGreatDoor

/- The walk of partition.Holds. -/
namespace Go.Proofs.YtalejolehccclaaGreatDoor
open Go.RowKit
set_option linter.unusedVariables false

theorem labR_getD {n i : Nat} (cls : List (List Int)) (h : i < n) : (labR n cls).getD i 0 = labP cls i := getD_at _ (labR_at h cls)
theorem refP_iff {κ κ' : Type} [DecidableEq κ] [DecidableEq κ'] {ks : List κ} {ks' : List κ'} (hl : ks'.length = ks.length) : refP (clsK ks) (labR ks.length (clsK ks')) = true ↔
  ∀ (i j : Nat) (a b : κ) (a' b' : κ'), ks[i]? = some a -> ks[j]? = some b -> ks'[i]? = some a' -> ks'[j]? = some b' -> a = b -> a' = b' := by
 have inn : ∀ {c : List Int}, c ∈ clsK ks -> ∃ k, (∀ x ∈ c, ∃ i : Nat, x = (i : Int) /\ i < ks.length /\ ks[i]? = some k) /\ ∃ h : Nat, c.headD 0 = (h : Int) /\ h < ks.length /\ ks[h]? = some k := by
  intro c hc
  obtain ⟨k, _, rfl, h2⟩ := mem_cls.1 hc
  have key : ∀ x ∈ idsOf (ixL ks) k, ∃ i : Nat, x = (i : Int) /\ i < ks.length /\ ks[i]? = some k := by
   intro x hx
   obtain ⟨i, h1, rfl⟩ := mem_ids.1 hx
   exact ⟨i, rfl, (List.getElem?_eq_some_iff.1 h1).1, h1⟩
  refine ⟨k, key, ?_⟩
  cases hl : idsOf (ixL ks) k with
  | nil => rw [hl] at h2; simp at h2
  | cons x l => exact key x (by rw [hl]; simp)
 unfold refP
 rw [Bool.not_eq_true', List.any_eq_false]
 unfold refC
 constructor
 ·intro h i j a b a' b' h1 h2 h3 h4 e
  subst e
  by_cases hij : i = j
  ·subst hij; rw [h3] at h4; cases h4; rfl
  ·have m1 : (i : Int) ∈ idsOf (ixL ks) a := mem_ids.2 ⟨i, h1, rfl⟩
   have m2 : (j : Int) ∈ idsOf (ixL ks) a := mem_ids.2 ⟨j, h2, rfl⟩
   have h2l : 2 <= (idsOf (ixL ks) a).length := by
    have := nodup_lenK (a := [(i : Int), (j : Int)]) (b := idsOf (ixL ks) a) (by simp; omega) (by intro s hs; simp at hs; rcases hs with rfl | rfl <;> assumption)
    simpa using this
   have hc := mem_cls.2 ⟨a, List.mem_of_getElem? h1, rfl, h2l⟩
   have hno := h _ hc
   rw [Bool.not_eq_true, List.any_eq_false] at hno
   obtain ⟨k, -, hd, hdk, hdl, -⟩ := inn hc
   have e1 := hno _ m1
   have e2 := hno _ m2
   rw [hdk, Int.toNat_natCast, Int.toNat_natCast, labR_getD _ (List.getElem?_eq_some_iff.1 h1).1, labR_getD _ hdl] at e1
   rw [hdk, Int.toNat_natCast, Int.toNat_natCast, labR_getD _ (List.getElem?_eq_some_iff.1 h2).1, labR_getD _ hdl] at e2
   have e3 : labP (clsK ks') i = labP (clsK ks') j := by
    have f1 : labP (clsK ks') i = labP (clsK ks') hd := by simpa using e1
    have f2 : labP (clsK ks') j = labP (clsK ks') hd := by simpa using e2
    rw [f1, f2]
   exact (lab_iff ks' h3 h4).1 e3
 ·intro h c hc
  rw [Bool.not_eq_true, List.any_eq_false]
  obtain ⟨k, hk, hd, hdk, hdl, hdg⟩ := inn hc
  intro x hx
  obtain ⟨i, rfl, hil, hig⟩ := hk x hx
  obtain ⟨a', ha'⟩ := get_some (show i < ks'.length by omega)
  obtain ⟨b', hb'⟩ := get_some (show hd < ks'.length by omega)
  have e := h i hd k k a' b' hig hdg ha' hb' rfl
  subst e
  rw [hdk, Int.toNat_natCast, Int.toNat_natCast, labR_getD _ hil, labR_getD _ hdl, (lab_iff ks' ha' hb').2 rfl]
  simp
theorem refP_sat {m : Nat} {rs : List Row3} (h : FineR m rs) {f : F} (h1 : sub f.1 (fullN m)) (h2 : sub f.2 (fullN m)) :
  refP (clsK (keyOn rs f.1)) (labR rs.length (clsK (keyOn rs f.2))) = satB rs f := by
 have e := refP_iff (ks := keyOn rs f.1) (ks' := keyOn rs f.2) (by rw [keyOn_length, keyOn_length])
 rw [keyOn_length] at e
 rw [Bool.eq_iff_iff, e, ref_iff h h1 h2]
 unfold satB
 rw [List.all_eq_true]
 refine forall_congr' fun r => ?_
 refine forall_congr' fun hr => ?_
 rw [List.all_eq_true]
 refine forall_congr' fun q => ?_
 refine forall_congr' fun hq => ?_
 unfold satR
 have e1 := agB_sub (h.wid r hr) (h.wid q hq) h.le h1
 have e2 := agB_sub (h.wid r hr) (h.wid q hq) h.le h2
 rw [Bool.or_eq_true, Bool.not_eq_true', e2]
 cases hb : agB r.2.2 q.2.2 f.1 with
 | false =>
  simp only [true_or, iff_true]
  intro hx; rw [e1.2 hx] at hb; cases hb
 | true => simp only [Bool.true_eq_false, false_or]; exact ⟨fun x => x (e1.1 hb), fun x _ => x⟩

set_option maxHeartbeats 1600000 in
set_option maxRecDepth 100000 in
theorem pHolds_any (t : T3) (av rv : Value) (f : F) (w : World) (ht : RdT w av rv t) (hT : Tab w) (hE : tabE2 t = 0) (hok : okT t) (hs1 : sub f.1 (fullN t.2.1.length)) (hs2 : sub f.2 (fullN t.2.1.length)) :
  Calls Tryz.prog 73 #[.agg #[.string t.1, av, rv], .agg #[.int .u32 (iv f.1), .int .u32 (iv f.2)]] w fun e w' => e = .returned (.tuple #[.bool (satB t.2.2 f), .int .i64 0]) /\ Below w.heap.size w w' := by
 have hb00 := below_alloc w (.cells #[.string t.1, av, rv] 32)
 have hb01 := below_alloc (w.alloc (.cells #[.string t.1, av, rv] 32)) (.cells #[.int .u32 (iv f.1), .int .u32 (iv f.2)] 80)
 have hb0 := hb00.trans (hb01.mono hb00.size)
 have C3 := hid (fun W (h : Below ((w.alloc (.cells #[.string t.1, av, rv] 32)).alloc (.cells #[.int .u32 (iv f.1), .int .u32 (iv f.2)] 80)).heap.size ((w.alloc (.cells #[.string t.1, av, rv] 32)).alloc (.cells #[.int .u32 (iv f.1), .int .u32 (iv f.2)] 80)) W) => cells3 (w := w) (a := .string t.1) (b := av) (c := rv) (t := 32) W (hb01.trans (h.mono hb01.size)))
 have F2 := hid (fun W h => cells2 (w := w.alloc (.cells #[.string t.1, av, rv] 32)) (a := .int .u32 (iv f.1)) (b := .int .u32 (iv f.2)) (t := 80) W h)
 rw [show (w.alloc (.cells #[.string t.1, av, rv] 32)).heap.size = w.heap.size + 1 by simp] at F2
 have T0 := hid (ht.below hb0)
 have HT0 := hid (hT.below hb0)
 obtain ⟨w0, hw0⟩ : ∃ w0 : World, (w.alloc (.cells #[.string t.1, av, rv] 32)).alloc (.cells #[.int .u32 (iv f.1), .int .u32 (iv f.2)] 80) = w0 := ⟨_, rfl⟩
 rw [hw0] at hb0 C3 T0 F2 HT0
 have B0 := hid hb0
 have W0 := hid hw0
 have hsz0 := hb0.size
 have E := hid (tabE2_tab hE)
 have TO := hid (tabE2_ok hE)
 have FI := fine_of hE hok
 have l2 := (tabE_len E.out).2
 have l1 := (tabE_len E.out).1
 have TV := hid (fun (W : World) (h : Below w0.heap.size w0 W) => tvalid_any t av rv W (T0.out.below h))
 rw [E.out] at TV
 have PW := hid (fun (W : World) (h : Below w0.heap.size w0 W) => pwithin_any t av rv (f.1 ||| f.2) W (T0.out.below h) l1)
 rw [(shrOk_sub (by omega)).2 (sub_or.2 ⟨hs1, hs2⟩)] at PW
 have PF := hid (fun (s : S) (hs : sub s (fullN t.2.1.length)) (W : World) (h : Below w0.heap.size w0 W) => pof_any t av rv s W (T0.out.below h) (HT0.out.below h) (sub_full_bits (by omega) hs) (by omega) l2 (fun r hr => (TO.out.2.2 r hr).1) hok)
 have P1 := hid (PF.out f.1 hs1)
 have P2 := hid (PF.out f.2 hs2)
 have okk := fun (s : S) => show okQ t.2.2.length (clsK (keyOn t.2.2 s)) by have := cls_okQ (ks := keyOn t.2.2 s) (by rw [keyOn_length]; exact l2); rwa [keyOn_length] at this
 have K1 := hid (okk f.1)
 have K2 := hid (okk f.2)
 have SAT := hid (refP_sat FI hs1 hs2)
 have RFN := hid (fun (gs hs : List Gp) (cv dv : Value) (W : World) (hv : RdG W cv gs) (hu : RdG W dv hs) (h1 : gs.map (·.2) = clsK (keyOn t.2.2 f.1)) (h2 : hs.map (·.2) = clsK (keyOn t.2.2 f.2)) => by
  have h := prefines_any t.2.2.length gs hs cv dv W hv hu (by rw [h1]; exact K1.out) (by rw [h2]; exact K2.out)
  rw [h1, h2, SAT.out] at h
  exact h)
 rw [show (fun r : Row3 => mkKS (kyB r.2.2 (memN f.1 32))) = fun r : Row3 => mkKS (kyB r.2.2 (memN f.1 32)) from rfl] at P1
 obtain ⟨A1, hA1⟩ : ∃ A1, clsK (keyOn t.2.2 f.1) = A1 := ⟨_, rfl⟩
 obtain ⟨A2, hA2⟩ : ∃ A2, clsK (keyOn t.2.2 f.2) = A2 := ⟨_, rfl⟩
 replace P1 := hid (fun (W : World) (h : Below w0.heap.size w0 W) => show Calls Tryz.prog 127 #[.agg #[.string t.1, av, rv], .int .u32 (iv f.1)] W fun e w' => ∃ (v' : Value) (gs : List Gp), e = .returned (.agg #[.int .i64 (t.2.2.length : Int), v']) /\ RdG w' v' gs /\ gs.map (·.2) = A1 /\ FarG W.heap.size v' gs /\ Below W.heap.size W w' by rw [<- hA1]; exact P1.out W h)
 replace P2 := hid (fun (W : World) (h : Below w0.heap.size w0 W) => show Calls Tryz.prog 127 #[.agg #[.string t.1, av, rv], .int .u32 (iv f.2)] W fun e w' => ∃ (v' : Value) (gs : List Gp), e = .returned (.agg #[.int .i64 (t.2.2.length : Int), v']) /\ RdG w' v' gs /\ gs.map (·.2) = A2 /\ FarG W.heap.size v' gs /\ Below W.heap.size W w' by rw [<- hA2]; exact P2.out W h)
 rw [hA1, hA2] at RFN
 generalize satB t.2.2 f = SB at *
 obtain ⟨nm, ats, rs⟩ := t
 simp only at TV PW P1 P2 RFN
 have HS := hid (fun (W : World) (h : Below w0.heap.size w0 W) => show Below w0.heap.size w0 W /\ (W.cell? ⟨w.heap.size, 0, none⟩ = some (.string nm) /\ W.cell? ⟨w.heap.size, 1, none⟩ = some av /\ W.cell? ⟨w.heap.size, 2, none⟩ = some rv) /\ (W.cell? ⟨w.heap.size + 1, 0, none⟩ = some (.int .u32 (iv f.1)) /\ W.cell? ⟨w.heap.size + 1, 1, none⟩ = some (.int .u32 (iv f.2))) from ⟨h, C3.out W h, F2.out W h⟩)
 obtain ⟨c0, c1, c2⟩ := C3.out _ (Below.refl _ _)
 obtain ⟨d0, d1⟩ := F2.out _ (Below.refl _ _)
 clear ht hT hb00 hb01 hb0 hw0 hE hok hs1 hs2 l1 l2 FI okk SAT K1 K2 hA1 hA2 PF TO E
 go_enter Tryz.func73, Tryz.ntmps73
 go_wp2_with fail
 rw [W0.out]
 go_wp2_with fail
 refine (TV.out _ (Below.refl _ _)).mono ?_
 rintro e w1 ⟨rfl, hb1⟩
 have H1 := hid hb1
 clear hb1 c0 c1 c2 d0 d1
 obtain ⟨c0, c1, c2⟩ := C3.out _ H1.out
 obtain ⟨d0, d1⟩ := F2.out _ H1.out
 go_wp2_with fail
 refine (PW.out _ H1.out).mono ?_
 rintro e w2 ⟨rfl, hb2⟩
 have H2 := hid (H1.out.trans (hb2.mono H1.out.size))
 clear hb2 c0 c1 c2 d0 d1
 go_wp2_with fail
 go_region_held3 (fun W => Below w0.heap.size w0 W /\ (W.cell? ⟨w.heap.size, 0, none⟩ = some (.string nm) /\ W.cell? ⟨w.heap.size, 1, none⟩ = some av /\ W.cell? ⟨w.heap.size, 2, none⟩ = some rv) /\ (W.cell? ⟨w.heap.size + 1, 0, none⟩ = some (.int .u32 (iv f.1)) /\ W.cell? ⟨w.heap.size + 1, 1, none⟩ = some (.int .u32 (iv f.2))))
  (first | exact HS.out _ (below_drewN' H2.out _) | exact HS.out _ H2.out.drew | exact HS.out _ H2.out | exact HS.out _ (by assumption))
  (first
   | (go_at_call 127; have hS := And.left ‹Below w0.heap.size w0 _ /\ _ /\ _›; with_reducible refine (P1.out _ hS).mono ?_; rintro e wa ⟨va, ga, rfl, hra, hma, -, hba⟩; have hLa := hS.trans (hba.mono hS.size); (first | (replace hrb := RdG.below hrb hba) | skip); clear hba hS)
   | (go_at_call 127; have hS := And.left ‹Below w0.heap.size w0 _ /\ _ /\ _›; with_reducible refine (P2.out _ hS).mono ?_; rintro e wb ⟨vb, gb, rfl, hrb, hmb, -, hbb⟩; have hLb := hS.trans (hbb.mono hS.size); (first | (replace hra := RdG.below hra hbb) | skip); clear hbb hS)
   | (go_at_call 126; have hS := And.left ‹Below w0.heap.size w0 _ /\ _ /\ _›; refine (RFN.out _ _ _ _ _ (by first | exact hra | exact RdG.below hra (Below.refl _ _).drew) (by first | exact hrb | exact RdG.below hrb (Below.refl _ _).drew) hma hmb).mono ?_; rintro e wc ⟨rfl, hbc⟩; have hLc := hS.trans (hbc.mono hS.size); clear hbc hS))
 all_goals
  have BQ := hid (B0.out.trans (hLc.mono hsz0))
  clear hLa hLb hLc hra hrb
  go_wp2_with fail
  go_ret2
  exact ⟨rfl, BQ.out⟩

end Go.Proofs.YtalejolehccclaaGreatDoor

/- The walk of fdmine.witnessed. -/
namespace Go.Proofs.YtalejolehccclaaGreatDoor
open Go.RowKit
set_option linter.unusedVariables false

def witD (m a : Nat) (x : W3) (r q : Row3) : Bool := decide (x.2.1 < x.2.2) && shrOk x.1 m && !x.1.getLsbD a && wP a x.1 (r, q)
def witO (rs : List Row3) (m a : Nat) (x : W3) : Option Nat -> Option Nat -> Bool
 | some i, some k => match rs[i]?, rs[k]? with
  | some r, some q => witD m a x r q
  | _, _ => false
 | _, _ => false
def witB (rs : List Row3) (m a : Nat) (x : W3) : Bool := witO rs m a x (fnd rs x.2.1) (fnd rs x.2.2)

attribute [local irreducible] Go.wpQuiet
set_option maxHeartbeats 3200000 in
set_option maxRecDepth 100000 in
theorem fwit_any (t : T3) (av rv : Value) (a : Nat) (x : W3) (w : World) (ht : RdT w av rv t) (hT : Tab w) (hk : tabE2 t = 0) (ha : a < t.2.1.length) :
  Calls Tryz.prog 74 #[.agg #[.string t.1, av, rv], .int .i64 (a : Int), .agg #[.int .u32 (iv x.1), .int .i64 x.2.1, .int .i64 x.2.2]] w fun e w' => e = .returned (.bool (witB t.2.2 t.2.1.length a x)) /\ Below w.heap.size w w' := by
 obtain ⟨xs, xa, xb⟩ := x
 have hb00 := below_alloc w (.cells #[.string t.1, av, rv] 32)
 have hb01 := below_alloc (w.alloc (.cells #[.string t.1, av, rv] 32)) (.cells #[.int .u32 (iv xs), .int .i64 xa, .int .i64 xb] 60)
 have hb0 := hb00.trans (hb01.mono hb00.size)
 have C3 := hid (fun W (h : Below ((w.alloc (.cells #[.string t.1, av, rv] 32)).alloc (.cells #[.int .u32 (iv xs), .int .i64 xa, .int .i64 xb] 60)).heap.size ((w.alloc (.cells #[.string t.1, av, rv] 32)).alloc (.cells #[.int .u32 (iv xs), .int .i64 xa, .int .i64 xb] 60)) W) => cells3 (w := w) (a := .string t.1) (b := av) (c := rv) (t := 32) W (hb01.trans (h.mono hb01.size)))
 have F3 := hid (fun W h => cells3 (w := w.alloc (.cells #[.string t.1, av, rv] 32)) (a := .int .u32 (iv xs)) (b := .int .i64 xa) (c := .int .i64 xb) (t := 60) W h)
 rw [show (w.alloc (.cells #[.string t.1, av, rv] 32)).heap.size = w.heap.size + 1 by simp] at F3
 have T0 := hid (ht.below hb0)
 have HT0 := hid (hT.below hb0)
 obtain ⟨w0, hw0⟩ : ∃ w0 : World, (w.alloc (.cells #[.string t.1, av, rv] 32)).alloc (.cells #[.int .u32 (iv xs), .int .i64 xa, .int .i64 xb] 60) = w0 := ⟨_, rfl⟩
 rw [hw0] at hb0 C3 T0 F3 HT0
 have B0 := hid hb0
 have W0 := hid hw0
 have hsz0 := hb0.size
 have FA := hid (fun (W : World) (h : Below w0.heap.size w0 W) => find_any t av rv xa W (T0.out.below h))
 have FB := hid (fun (W : World) (h : Below w0.heap.size w0 W) => find_any t av rv xb W (T0.out.below h))
 obtain ⟨h16, h200, hrows⟩ := tabE2_ok hk
 obtain ⟨nm, ats, rs⟩ := t
 replace h16 : ats.length <= 16 := h16
 replace h200 : rs.length <= 200 := h200
 replace ha : a < ats.length := ha
 have HR := hid (show ∀ r ∈ rs, r.2.2.length = ats.length from fun r hr => (hrows r hr).1)
 obtain ⟨ao, acap, hva, -⟩ := T0.out.1.split
 obtain ⟨ro, rcap, hvr, hrl, hrc⟩ := RdR.split T0.out.2
 simp only at hva hvr FA FB
 subst hva hvr
 have RC := hid hrc
 have RA := hid (fun (hsub : sub xs (fullN ats.length)) (i j : Int) (vs ws : List V3) (u v : Value) (W : World) (h : Below w0.heap.size w0 W) (hu : RdV W u vs) (hv : RdV W v ws) (hl : ws.length = vs.length) (hx : vs.length = ats.length) => fagr_any i j vs ws u v xs W hu hv (HT0.out.below h) hl (fun b hb => by rw [hx]; exact full_le hsub (mem_memN.1 hb).1 (mem_memN.1 hb).2))
 show Calls _ _ _ _ fun e w' => e = .returned (.bool (witB rs ats.length a (xs, xa, xb))) /\ Below w.heap.size w w'
 have WB := hid (show witB rs ats.length a (xs, xa, xb) = witO rs ats.length a (xs, xa, xb) (fnd rs xa) (fnd rs xb) from rfl)
 have GA := hid (fun k (h : fnd rs xa = some k) => fnd_get h)
 have GB := hid (fun k (h : fnd rs xb = some k) => fnd_get h)
 obtain ⟨res, hres⟩ : ∃ res, witB rs ats.length a (xs, xa, xb) = res := ⟨_, rfl⟩
 rw [hres] at WB ⊢
 have a0 : (0 : Int) <= (a : Int) := by omega
 have a1 : (a : Int) < 32 := by omega
 have al0 : (0 : Int) <= (ats.length : Int) := by omega
 have al1 : (ats.length : Int) <= 16 := by omega
 have al2 : (ats.length : Int) < 64 := by omega
 have HA := hid ha
 have H16 := hid h16
 obtain ⟨c0, c1, c2⟩ := C3.out _ (Below.refl _ _)
 obtain ⟨d0, d1, d2⟩ := F3.out _ (Below.refl _ _)
 clear ht hT hb00 hb01 hb0 hw0 hk hrows hrc ha hres h16 h200
 obtain ⟨fa, hfa⟩ : ∃ fa, fnd rs xa = fa := ⟨_, rfl⟩
 obtain ⟨fb, hfb⟩ : ∃ fb, fnd rs xb = fb := ⟨_, rfl⟩
 rw [hfa] at FA WB
 rw [hfb] at FB WB
 cases fa with
 | none =>
  replace FA := hid (fun (W : World) (h : Below w0.heap.size w0 W) => show Calls _ _ _ W fun e w' => e = .returned (.tuple #[.int .i64 0, .bool false]) /\ Below W.heap.size W w' from FA.out W h)
  cases fb with
  | none =>
   replace FB := hid (fun (W : World) (h : Below w0.heap.size w0 W) => show Calls _ _ _ W fun e w' => e = .returned (.tuple #[.int .i64 0, .bool false]) /\ Below W.heap.size W w' from FB.out W h)
   have RF := hid (show res = false by rw [WB.out]; rfl)
   clear hfa hfb GA GB WB
   go_enter Tryz.func74, Tryz.ntmps74
   go_wp2_with fail
   rw [W0.out]
   go_wp2_with fail
   refine (FA.out _ (Below.refl _ _)).mono ?_
   rintro e w1 ⟨rfl, hb1⟩
   have H1 := hid hb1
   clear hb1 c0 c1 c2 d0 d1 d2
   obtain ⟨c0, c1, c2⟩ := C3.out _ H1.out
   obtain ⟨d0, d1, d2⟩ := F3.out _ H1.out
   go_wp2_with fail
   refine (FB.out _ H1.out).mono ?_
   rintro e w2 ⟨rfl, hb2⟩
   have H2 := hid (H1.out.trans (hb2.mono H1.out.size))
   clear hb2 c0 c1 c2 d0 d1 d2
   obtain ⟨c0, c1, c2⟩ := C3.out _ H2.out
   obtain ⟨d0, d1, d2⟩ := F3.out _ H2.out
   go_wp2_with fail
   have BF := hid (B0.out.trans (H2.out.mono hsz0))
   go_ret
   exact ⟨ret_bool RF.out.symm, BF.out⟩
  | some k =>
   replace FB := hid (fun (W : World) (h : Below w0.heap.size w0 W) => show Calls _ _ _ W fun e w' => e = .returned (.tuple #[.int .i64 (k : Int), .bool true]) /\ Below W.heap.size W w' from FB.out W h)
   have RF := hid (show res = false by rw [WB.out]; rfl)
   clear hfa hfb GA GB WB
   go_enter Tryz.func74, Tryz.ntmps74
   go_wp2_with fail
   rw [W0.out]
   go_wp2_with fail
   refine (FA.out _ (Below.refl _ _)).mono ?_
   rintro e w1 ⟨rfl, hb1⟩
   have H1 := hid hb1
   clear hb1 c0 c1 c2 d0 d1 d2
   obtain ⟨c0, c1, c2⟩ := C3.out _ H1.out
   obtain ⟨d0, d1, d2⟩ := F3.out _ H1.out
   go_wp2_with fail
   refine (FB.out _ H1.out).mono ?_
   rintro e w2 ⟨rfl, hb2⟩
   have H2 := hid (H1.out.trans (hb2.mono H1.out.size))
   clear hb2 c0 c1 c2 d0 d1 d2
   obtain ⟨c0, c1, c2⟩ := C3.out _ H2.out
   obtain ⟨d0, d1, d2⟩ := F3.out _ H2.out
   go_wp2_with fail
   have BF := hid (B0.out.trans (H2.out.mono hsz0))
   go_ret
   exact ⟨ret_bool RF.out.symm, BF.out⟩
 | some i =>
  replace FA := hid (fun (W : World) (h : Below w0.heap.size w0 W) => show Calls _ _ _ W fun e w' => e = .returned (.tuple #[.int .i64 (i : Int), .bool true]) /\ Below W.heap.size W w' from FA.out W h)
  cases fb with
  | none =>
   replace FB := hid (fun (W : World) (h : Below w0.heap.size w0 W) => show Calls _ _ _ W fun e w' => e = .returned (.tuple #[.int .i64 0, .bool false]) /\ Below W.heap.size W w' from FB.out W h)
   have RF := hid (show res = false by rw [WB.out]; rfl)
   clear hfa hfb GA GB WB
   go_enter Tryz.func74, Tryz.ntmps74
   go_wp2_with fail
   rw [W0.out]
   go_wp2_with fail
   refine (FA.out _ (Below.refl _ _)).mono ?_
   rintro e w1 ⟨rfl, hb1⟩
   have H1 := hid hb1
   clear hb1 c0 c1 c2 d0 d1 d2
   obtain ⟨c0, c1, c2⟩ := C3.out _ H1.out
   obtain ⟨d0, d1, d2⟩ := F3.out _ H1.out
   go_wp2_with fail
   refine (FB.out _ H1.out).mono ?_
   rintro e w2 ⟨rfl, hb2⟩
   have H2 := hid (H1.out.trans (hb2.mono H1.out.size))
   clear hb2 c0 c1 c2 d0 d1 d2
   obtain ⟨c0, c1, c2⟩ := C3.out _ H2.out
   obtain ⟨d0, d1, d2⟩ := F3.out _ H2.out
   go_wp2_with fail
   have BF := hid (B0.out.trans (H2.out.mono hsz0))
   go_ret
   exact ⟨ret_bool RF.out.symm, BF.out⟩
  | some k =>
   replace FB := hid (fun (W : World) (h : Below w0.heap.size w0 W) => show Calls _ _ _ W fun e w' => e = .returned (.tuple #[.int .i64 (k : Int), .bool true]) /\ Below W.heap.size W w' from FB.out W h)
   obtain ⟨⟨r1, u1, vs1⟩, hr1, -⟩ := GA.out i hfa
   obtain ⟨⟨r2, u2, vs2⟩, hr2, -⟩ := GB.out k hfb
   replace WB := hid (show res = (decide (xa < xb) && shrOk xs ats.length && !xs.getLsbD a && wP a xs ((r1, u1, vs1), (r2, u2, vs2))) by
    rw [WB.out]
    simp only [witO, hr1, hr2, witD])
   clear hfa hfb GA GB
   cases hlt : decide (xa < xb) with
   | false =>
    have RF := hid (show res = false by rw [WB.out, hlt]; rfl)
    have hge : decide (xa ≥ xb) = true := by rw [decide_eq_true_iff]; rw [decide_eq_false_iff_not] at hlt; omega
    have hge2 : xb <= xa := of_decide_eq_true hge
    clear WB hlt hr1 hr2
    go_enter Tryz.func74, Tryz.ntmps74
    go_wp2_with fail
    rw [W0.out]
    go_wp2_with fail
    refine (FA.out _ (Below.refl _ _)).mono ?_
    rintro e w1 ⟨rfl, hb1⟩
    have H1 := hid hb1
    clear hb1 c0 c1 c2 d0 d1 d2
    obtain ⟨c0, c1, c2⟩ := C3.out _ H1.out
    obtain ⟨d0, d1, d2⟩ := F3.out _ H1.out
    go_wp2_with fail
    refine (FB.out _ H1.out).mono ?_
    rintro e w2 ⟨rfl, hb2⟩
    have H2 := hid (H1.out.trans (hb2.mono H1.out.size))
    clear hb2 c0 c1 c2 d0 d1 d2
    obtain ⟨c0, c1, c2⟩ := C3.out _ H2.out
    obtain ⟨d0, d1, d2⟩ := F3.out _ H2.out
    go_wp2_with fail
    have BF := hid (B0.out.trans (H2.out.mono hsz0))
    go_ret
    exact ⟨ret_bool RF.out.symm, BF.out⟩
   | true =>
    have hge : decide (xa ≥ xb) = false := by rw [decide_eq_false_iff_not]; rw [decide_eq_true_iff] at hlt; omega
    have hge2 : ¬ xb <= xa := of_decide_eq_false hge
    cases hsh : shrOk xs ats.length with
    | false =>
     have RF := hid (show res = false by rw [WB.out, hlt, hsh]; rfl)
     have hs2 : (IntKind.u64.wrap (iv xs) / 2 ^ ats.length == 0) = false := by rw [shr64]; exact hsh
     clear WB hlt hsh hr1 hr2
     go_enter Tryz.func74, Tryz.ntmps74
     go_wp2_with fail
     rw [W0.out]
     go_wp2_with fail
     refine (FA.out _ (Below.refl _ _)).mono ?_
     rintro e w1 ⟨rfl, hb1⟩
     have H1 := hid hb1
     clear hb1 c0 c1 c2 d0 d1 d2
     obtain ⟨c0, c1, c2⟩ := C3.out _ H1.out
     obtain ⟨d0, d1, d2⟩ := F3.out _ H1.out
     go_wp2_with fail
     refine (FB.out _ H1.out).mono ?_
     rintro e w2 ⟨rfl, hb2⟩
     have H2 := hid (H1.out.trans (hb2.mono H1.out.size))
     clear hb2 c0 c1 c2 d0 d1 d2
     obtain ⟨c0, c1, c2⟩ := C3.out _ H2.out
     obtain ⟨d0, d1, d2⟩ := F3.out _ H2.out
     go_wp2_with fail
     have BF := hid (B0.out.trans (H2.out.mono hsz0))
     go_ret
     exact ⟨ret_bool RF.out.symm, BF.out⟩
    | true =>
     have hs2 : (IntKind.u64.wrap (iv xs) / 2 ^ ats.length == 0) = true := by rw [shr64]; exact hsh
     have hs3 : IntKind.u64.wrap (iv xs) / 2 ^ ats.length = 0 := beq_iff_eq.1 hs2
     have hsub := hid ((shrOk_sub (by have := H16.out; omega)).1 hsh)
     cases hh : xs.getLsbD a with
     | true =>
      have RF := hid (show res = false by rw [WB.out, hlt, hsh, hh]; rfl)
      have hb1' : (iv (xs >>> a &&& 1#32) == 1) = true := by rw [bit_test]; exact hh
      have hb2' := beq_iff_eq.1 hb1'
      clear WB hlt hsh hr1 hr2 hh hs2 hb1'
      go_enter Tryz.func74, Tryz.ntmps74
      go_wp2_with fail
      rw [W0.out]
      go_wp2_with fail
      refine (FA.out _ (Below.refl _ _)).mono ?_
      rintro e w1 ⟨rfl, hb1⟩
      have H1 := hid hb1
      clear hb1 c0 c1 c2 d0 d1 d2
      obtain ⟨c0, c1, c2⟩ := C3.out _ H1.out
      obtain ⟨d0, d1, d2⟩ := F3.out _ H1.out
      go_wp2_with fail
      refine (FB.out _ H1.out).mono ?_
      rintro e w2 ⟨rfl, hb2⟩
      have H2 := hid (H1.out.trans (hb2.mono H1.out.size))
      clear hb2 c0 c1 c2 d0 d1 d2
      obtain ⟨c0, c1, c2⟩ := C3.out _ H2.out
      obtain ⟨d0, d1, d2⟩ := F3.out _ H2.out
      go_wp2_with fail
      have BF := hid (B0.out.trans (H2.out.mono hsz0))
      go_ret
      exact ⟨ret_bool RF.out.symm, BF.out⟩
     | false =>
      have hb1' : (iv (xs >>> a &&& 1#32) == 1) = false := by rw [bit_test]; exact hh
      rw [hlt, hsh, hh] at WB
      obtain ⟨⟨b, off, rfl, hd1⟩, hv1⟩ := RC.out i _ hr1
      obtain ⟨⟨b', off', hbb, hd2⟩, hv2⟩ := RC.out k _ hr2
      cases hbb
      have L1 : vs1.length = ats.length := HR.out _ (List.mem_of_getElem? hr1)
      have L2 : vs2.length = ats.length := HR.out _ (List.mem_of_getElem? hr2)
      have i0 : (0 : Int) <= (i : Int) := by omega
      have k0 : (0 : Int) <= (k : Int) := by omega
      have i1 : (i : Int) < (rs.length : Int) := by have := (List.getElem?_eq_some_iff.1 hr1).1; omega
      have k1 : (k : Int) < (rs.length : Int) := by have := (List.getElem?_eq_some_iff.1 hr2).1; omega
      have V1 := hid (fun (W : World) (h : Below w0.heap.size w0 W) => show RdV W u1 vs1 from hv1 W h)
      have V2 := hid (fun (W : World) (h : Below w0.heap.size w0 W) => show RdV W u2 vs2 from hv2 W h)
      obtain ⟨uo, ucap, rfl, -, huc⟩ := RdV.split (V1.out w0 (Below.refl _ _))
      obtain ⟨vo, vcap, rfl, -, hvc⟩ := RdV.split (V2.out w0 (Below.refl _ _))
      obtain ⟨x, hx⟩ := get_some (show a < vs1.length by have := HA.out; omega)
      obtain ⟨y, hy⟩ := get_some (show a < vs2.length by have := HA.out; omega)
      obtain ⟨xb', xoff, rfl, hxd⟩ := huc a x hx
      obtain ⟨yb', yoff, rfl, hyd⟩ := hvc a y hy
      have ax : (a : Int) < (vs1.length : Int) := by have := HA.out; omega
      have ay : (a : Int) < (vs2.length : Int) := by have := HA.out; omega
      have R1 := hid (fun (W : World) (h : Below w0.heap.size w0 W) => show W.cell? ⟨b, off + i * 2, none⟩ = some (.int .i64 r1) /\ W.cell? ⟨b, off + i * 2 + 1, none⟩ = some (.slice (some ⟨xb', xoff, none⟩) vs1.length ucap) from hd1 W h)
      have R2 := hid (fun (W : World) (h : Below w0.heap.size w0 W) => show W.cell? ⟨b, off + k * 2, none⟩ = some (.int .i64 r2) /\ W.cell? ⟨b, off + k * 2 + 1, none⟩ = some (.slice (some ⟨yb', yoff, none⟩) vs2.length vcap) from hd2 W h)
      have XD := hid hxd
      have YD := hid hyd
      have KA := hid (fun (W : World) (h : Below w0.heap.size w0 W) => RA.out hsub.out r1 r2 vs1 vs2 _ _ W h (V1.out W h) (V2.out W h) (by rw [L1, L2]) L1)
      replace WB := hid (show res = (!eqV x y && agrB vs1 vs2 xs) by rw [WB.out]; unfold wP; simp only; rw [getD_at _ hx, getD_at _ hy]; rfl)
      have EQ := run_neqV x y
      obtain ⟨ag, hag⟩ : ∃ ag, agrB vs1 vs2 xs = ag := ⟨_, rfl⟩
      rw [hag] at KA WB
      clear hlt hsh hr1 hr2 hh hs2 hd1 hd2 hv1 hv2 huc hvc hx hy hxd hyd hag L1 L2
      go_enter Tryz.func74, Tryz.ntmps74
      go_wp2_with fail
      rw [W0.out]
      go_wp2_with fail
      refine (FA.out _ (Below.refl _ _)).mono ?_
      rintro e w1 ⟨rfl, hb1⟩
      have H1 := hid hb1
      clear hb1 c0 c1 c2 d0 d1 d2
      obtain ⟨c0, c1, c2⟩ := C3.out _ H1.out
      obtain ⟨d0, d1, d2⟩ := F3.out _ H1.out
      go_wp2_with fail
      refine (FB.out _ H1.out).mono ?_
      rintro e w2 ⟨rfl, hb2⟩
      have H2 := hid (H1.out.trans (hb2.mono H1.out.size))
      clear hb2 c0 c1 c2 d0 d1 d2
      obtain ⟨c0, c1, c2⟩ := C3.out _ H2.out
      obtain ⟨d0, d1, d2⟩ := F3.out _ H2.out
      go_upto_region 5 with fail
      obtain ⟨p0, p1⟩ := R1.out _ H2.out
      obtain ⟨q0, q1⟩ := R2.out _ H2.out
      obtain ⟨x0, x1, x2⟩ := XD.out _ H2.out
      obtain ⟨y0, y1, y2⟩ := YD.out _ H2.out
      have hs2' := H2.out.size
      have CX := hid (fun (z : After w2) => Calls.after z (KA.out z.world (H2.out.trans (z.below.mono hs2'))))
      have m0 : ∀ z : After w2, z.world.cell? ⟨w.heap.size, 0, none⟩ = some (.string nm) := fun z => After.cell c0 z
      have m1 : ∀ z : After w2, z.world.cell? ⟨w.heap.size, 1, none⟩ = some (.slice ao ats.length acap) := fun z => After.cell c1 z
      have m2 : ∀ z : After w2, z.world.cell? ⟨w.heap.size, 2, none⟩ = some (.slice (some ⟨b, off, none⟩) rs.length rcap) := fun z => After.cell c2 z
      have n0 : ∀ z : After w2, z.world.cell? ⟨w.heap.size + 1, 0, none⟩ = some (.int .u32 (iv xs)) := fun z => After.cell d0 z
      have s0 := fun z : After w2 => After.cell p0 z
      have s1 := fun z : After w2 => After.cell p1 z
      have s2 := fun z : After w2 => After.cell q0 z
      have s3 := fun z : After w2 => After.cell q1 z
      have t0 := fun z : After w2 => After.cell x0 z
      have t1 := fun z : After w2 => After.cell x1 z
      have t2 := fun z : After w2 => After.cell x2 z
      have z0 := fun z : After w2 => After.cell y0 z
      have z1 := fun z : After w2 => After.cell y1 z
      have z2 := fun z : After w2 => After.cell y2 z
      cases hD : eqV x y with
      | true =>
       rw [hD] at EQ WB
       have RF := hid (show res = false from WB.out)
       simp only [Bool.not_true] at EQ
       clear hD CX WB
       refine wp_region_after (by kernel_rfl) (by kernel_rfl) ?_
       repeat (any_goals (quiet_step (fail)))
       refine wpQuiet_nil ?_
       intro wz hbz
       have BF := hid (B0.out.trans ((H2.out.trans (hbz.mono hs2')).mono hsz0))
       clear hbz
       go_wp2_with fail
       go_ret
       exact ⟨ret_bool RF.out.symm, BF.out⟩
      | false =>
       rw [hD] at EQ WB
       simp only [Bool.not_false] at EQ
       have RF := hid (show res = ag by rw [WB.out]; simp)
       clear hD WB
       refine wp_region_after (by kernel_rfl) (by kernel_rfl) ?_
       repeat (any_goals (quiet_step (exact CX.out _)))
       refine wpQuiet_nil ?_
       intro wz hbz
       have BF := hid (B0.out.trans ((H2.out.trans (hbz.mono hs2')).mono hsz0))
       clear hbz
       go_wp2_with fail
       go_ret
       exact ⟨ret_bool RF.out.symm, BF.out⟩

end Go.Proofs.YtalejolehccclaaGreatDoor

/- The walk of fdmine.Check. -/
namespace Go.Proofs.YtalejolehccclaaGreatDoor
open Go.RowKit
set_option linter.unusedVariables false

theorem aminimal1_any (a b : S) (w : World) : Calls Tryz.prog 129 #[enc a, enc b] w fun e w' => e = .returned (.bool (downR a b)) /\ w = w' := by
 unfold enc downR
 go_enter Tryz.func129, Tryz.ntmps129
 go_wp2
 go_ret
 exact ⟨rfl, rfl⟩
theorem aminimal_any (xs : List S) (v : Value) (w : World) (hv : RdE enc w v xs) (h44 : xs.length < 17592186044416) :
  Calls Tryz.prog 75 #[v] w fun e w' => ∃ v', e = .returned v' /\ w'.ownsRow w.heap.size 58 1 v' (keepS downR xs).length ((keepS downR xs).map enc) /\ Below w.heap.size w w' := by
 have C := hid (keep_any 129 downR xs v w hv h44 (enters _ _ _ Tryz.func129 (by kernel_rfl) rfl) aminimal1_any)
 obtain ⟨ao, cap, rfl, -⟩ := hv
 go_enter Tryz.func75, Tryz.ntmps75
 go_wp2_with fail
 refine C.out.mono ?_
 rintro e w1 ⟨v1, rfl, hown, hb1⟩
 have O1 := hid hown
 have B1 := hid hb1
 clear hown hb1
 go_wp2_with fail
 go_ret
 exact ⟨_, rfl, O1.out, B1.out⟩

def lhsB (rs : List Row3) (o : S) (a : Nat) (s : S) : Bool := (s &&& ~~~ o == 0#32) && satB rs (s, bit a)
def edgO (o : S) (ws : List W3) : List S := ws.map fun x => o &&& ~~~ x.1
def fchkC (rs : List Row3) (m a : Nat) (lhs : List S) (ws : List W3) : Bool :=
 lhs.all (lhsB rs (fullN m &&& ~~~ bit a) a) && ws.all (witB rs m a) && (validS m (keepS downR (edgO (fullN m &&& ~~~ bit a) ws)) == 0 && decide (resS m (keepS downR (edgO (fullN m &&& ~~~ bit a) ws)) = lhs))
def fchkB (t : T3) (a : Int) (lhs : List S) (ws : List W3) : Bool := decide (faE t a = 0) && fchkC t.2.2 t.2.1.length a.toNat lhs ws

attribute [local irreducible] Go.wpQuiet
set_option maxHeartbeats 3200000 in
set_option maxRecDepth 100000 in
theorem fchk_any (t : T3) (av rv : Value) (a : Int) (lhs : List S) (lv : Value) (ws : List W3) (wv : Value) (w : World) (ht : RdT w av rv t) (hT : Tab w) (hok : fE t = 0 -> okT t) (hl : RdE enc w lv lhs) (hw : RdW w wv ws)
  (hll : lhs.length <= 100000000) (hwl : ws.length <= 100000000) :
  Calls Tryz.prog 28 #[.agg #[.string t.1, av, rv], .int .i64 a, lv, wv] w fun e w' => e = .returned (.bool (fchkB t a lhs ws)) /\ Below w.heap.size w w' := by
 have hb0 := below_alloc w (.cells #[.string t.1, av, rv] 32)
 have C3 := hid (fun W h => cells3 (w := w) (a := .string t.1) (b := av) (c := rv) (t := 32) W h)
 have T0 := hid (ht.below hb0)
 obtain ⟨w0, hw0⟩ : ∃ w0 : World, w.alloc (.cells #[.string t.1, av, rv] 32) = w0 := ⟨_, rfl⟩
 rw [hw0] at hb0 C3 T0
 have B0 := hid hb0
 have W0 := hid hw0
 have hsz0 := hb0.size
 clear hb0 hw0
 have HT0 := hid (hT.below B0.out)
 have FA := hid (fun (W : World) (h : Below w0.heap.size w0 W) => fattr_any t av rv a W (T0.out.below h))
 obtain ⟨c0, c1, c2⟩ := C3.out _ (Below.refl _ _)
 by_cases h0 : faE t a = 0
 ·obtain ⟨hE, n, rfl, hn⟩ := faE_ok h0
  have hE2 := fE_tab hE
  have hOK := hok hE
  rw [h0] at FA
  have FB : fchkB t (n : Int) lhs ws = fchkC t.2.2 t.2.1.length n lhs ws := by unfold fchkB; rw [h0]; simp
  rw [FB]
  have h16 := (fE_ok hE).2.1
  have HO := hid (fun (s : S) (hs : s &&& ~~~ (fullN t.2.1.length &&& ~~~ bit n) = 0#32) (W : World) (h : Below w0.heap.size w0 W) => by
   have h1 := ((sub_others (m := t.2.1.length) (a := n) (by omega)).1 hs).1
   exact pHolds_any t av rv (s, bit n) W (T0.out.below h) (HT0.out.below h) hE2 hOK h1 (bit_full hn (by omega)))
  have WI := hid (fun (x : W3) (W : World) (h : Below w0.heap.size w0 W) => fwit_any t av rv n x W (T0.out.below h) (HT0.out.below h) hE2 hn)
  obtain ⟨nm, ats, rs⟩ := t
  obtain ⟨ao, acap, hva, -⟩ := T0.out.1.split
  simp only at hva FA HO WI hn h16
  subst hva
  show Calls _ _ _ _ fun e w' => e = .returned (.bool (fchkC rs ats.length n lhs ws)) /\ Below w.heap.size w w'
  have SHF := hid (shl_fullM (m := ats.length) (by omega))
  have SHF2 := hid (show (1#32 <<< ats.length - 1#32) &&& ~~~ (1#32 <<< n) = fullN ats.length &&& ~~~ bit n by rw [SHF.out]; rfl)
  obtain ⟨O, hO⟩ : ∃ O, fullN ats.length &&& ~~~ bit n = O := ⟨_, rfl⟩
  have FC := hid (show fchkC rs ats.length n lhs ws = (lhs.all (lhsB rs O n) && ws.all (witB rs ats.length n) && (validS ats.length (keepS downR (edgO O ws)) == 0 && decide (resS ats.length (keepS downR (edgO O ws)) = lhs))) by rw [<- hO]; rfl)
  rw [hO] at SHF2 HO
  obtain ⟨RES, hRES⟩ : ∃ RES, fchkC rs ats.length n lhs ws = RES := ⟨_, rfl⟩
  rw [hRES] at FC ⊢
  have LB := hid (fun s => show lhsB rs O n s = ((s &&& ~~~ O == 0#32) && satB rs (s, bit n)) from rfl)
  obtain ⟨WB, hWB⟩ : ∃ WB : W3 -> Bool, witB rs ats.length n = WB := ⟨_, rfl⟩
  obtain ⟨LBF, hLBF⟩ : ∃ LBF : S -> Bool, lhsB rs O n = LBF := ⟨_, rfl⟩
  rw [hWB] at WI FC
  rw [hLBF] at LB FC
  have LHS := hid (hl.below B0.out)
  have WS := hid (RdC.below hw B0.out)
  obtain ⟨lo, lcap, rfl, -, hlc⟩ := LHS.out.split
  obtain ⟨wo', wcap, rfl, -, hwc⟩ := RdW.split WS.out
  have LC := hid hlc
  have WC := hid hwc
  have HLL := hid hll
  have HWL := hid hwl
  have n0 : (0 : Int) <= (n : Int) := by omega
  have n1 : (n : Int) < 32 := by omega
  have al0 : (0 : Int) <= (ats.length : Int) := by omega
  have al1 : (ats.length : Int) < 32 := by omega
  clear ht hT hok h0 hE hE2 hOK hO hRES hWB hLBF hl hw hlc hwc hll hwl hn h16 FB
  unfold bit at *
  go_enter Tryz.func28, Tryz.ntmps28
  go_wp2_with fail
  rw [W0.out]
  go_wp2_with fail
  refine (FA.out _ (Below.refl _ _)).mono ?_
  rintro e w1 ⟨rfl, hb1⟩
  have D1 := hid hb1
  clear hb1 c0 c1 c2
  obtain ⟨c0, c1, c2⟩ := C3.out _ D1.out
  go_wp2_with fail
  go_quiet (fail)
  rename Nat => nq
  have D2 := hid (below_drewN' D1.out nq)
  obtain ⟨w2, hw2⟩ : ∃ w2, w1.drewN nq = w2 := ⟨_, rfl⟩
  rw [hw2] at D2
  rw [hw2, SHF2.out]
  clear hw2 c0 c1 c2
  go_wp2_with fail
  go_loopw [33] (fun i wr => ∃ k : Nat, k <= lhs.length /\ i = .int .i64 k /\ Hid ((lhs.take k).all LBF = true) /\ Below w0.heap.size w0 wr) (fun i _ => lhs.length - (intOf i).toNat)
  case atStart => exact ⟨0, Nat.zero_le _, rfl, hid rfl, D2.out⟩
  case round =>
   obtain ⟨k, hk, rfl, HP, hnx⟩ := hrel
   have hsz := hnx.size
   have k0 : (0 : Int) <= (k : Int) := by omega
   have kn : (k : Int) <= 100000000 := by have := HLL.out; omega
   obtain ⟨c0, c1, c2⟩ := C3.out _ hnx
   by_cases hlt : k < lhs.length
   ·obtain ⟨s, hs⟩ := get_some hlt
    obtain ⟨b, off, rfl, hd⟩ := LC.out k s hs
    have e0 := hd wr hnx
    unfold enc at e0
    have NX := hid hnx
    have HLT := hid hlt
    have HX := hid hs
    have LS := hid (LB.out s)
    clear hd hs hnx hlt
    by_cases hz : s &&& ~~~ O = 0#32
    ·have m0 : ∀ z : After wr, z.world.cell? ⟨w.heap.size, 0, none⟩ = some (.string nm) := fun z => After.cell c0 z
     have m1 : ∀ z : After wr, z.world.cell? ⟨w.heap.size, 1, none⟩ = some (.slice ao ats.length acap) := fun z => After.cell c1 z
     have m2 : ∀ z : After wr, z.world.cell? ⟨w.heap.size, 2, none⟩ = some rv := fun z => After.cell c2 z
     have CX := hid (fun (z : After wr) => Calls.after z (HO.out s hz z.world (NX.out.trans (z.below.mono hsz))))
     rw [show ((s &&& ~~~ O) == 0#32) = true from beq_iff_eq.2 hz, Bool.true_and] at LS
     cases hsat : satB rs (s, 1#32 <<< n) with
     | true =>
      rw [hsat] at LS CX
      have HN := hid (all_next HX.out LS.out HP.out)
      clear hsat
      go_wp2_with fail
      refine wp_region_after (by kernel_rfl) (by kernel_rfl) ?_
      repeat (any_goals (quiet_step (exact CX.out _)))
      refine wpQuiet_nil ?_
      intro wz hbz
      have BZ := hid (NX.out.trans (hbz.mono hsz))
      clear hbz m0 m1 m2 CX
      go_wp2_with fail
      go_roundw
      case rel => exact ⟨k + 1, by have := HLT.out; omega, by go_num, hid HN.out, BZ.out⟩
      case measure => have := HLT.out; simp [intOf]; omega
     | false =>
      rw [hsat] at LS CX
      have RF := hid (show RES = false by rw [FC.out, all_hit HX.out LS.out]; rfl)
      clear hsat
      go_wp2_with fail
      refine wp_region_after (by kernel_rfl) (by kernel_rfl) ?_
      repeat (any_goals (quiet_step (exact CX.out _)))
      refine wpQuiet_nil ?_
      intro wz hbz
      have BF := hid (B0.out.trans ((NX.out.trans (hbz.mono hsz)).mono hsz0))
      clear hbz m0 m1 m2 CX
      go_wp2_with fail
      go_ret
      exact ⟨ret_bool RF.out.symm, BF.out⟩
    ·have hz2 : (iv (s &&& ~~~ O) == 0) = false := by
      rw [beq_eq_false_iff_ne]
      intro e
      exact hz (BitVec.eq_of_toNat_eq (by unfold iv at e; simpa using e))
     have hz3 : ¬ iv (s &&& ~~~ O) = 0 := beq_eq_false_iff_ne.1 hz2
     have hz5 : (s &&& ~~~ O != 0#32) = true := by rw [bne_iff_ne]; exact hz
     have hz6 : (s &&& ~~~ O == 0#32) = false := beq_eq_false_iff_ne.2 hz
     have RF := hid (show RES = false by rw [FC.out, all_hit HX.out (LS.out.trans (by rw [show ((s &&& ~~~ O) == 0#32) = false from beq_eq_false_iff_ne.2 hz]; rfl))]; rfl)
     have BF := hid (B0.out.trans (NX.out.mono hsz0))
     clear hz
     go_wp2_with fail
     go_ret
     exact ⟨ret_bool RF.out.symm, BF.out⟩
   ·have HAL := hid (show lhs.all LBF = true by have h := HP.out; rwa [List.take_of_length_le (by omega)] at h)
    have NX := hid hnx
    clear hnx c0 c1 c2
    go_wp2_with fail
    go_loopw [14, 59] (fun u i wr => ∃ j : Nat, j <= ws.length /\ i = .int .i64 j /\ wr.ownsRow w0.heap.size 58 1 u (edgO O (ws.take j)).length ((edgO O (ws.take j)).map enc) /\ Hid ((ws.take j).all WB = true) /\ Below w0.heap.size w0 wr) (fun _ i _ => ws.length - (intOf i).toNat)
    case atStart => exact ⟨0, Nat.zero_le _, rfl, World.ownsRow_nil _ _ _ _, hid rfl, NX.out⟩
    case round =>
     obtain ⟨j, hj, rfl, hown, HQ, hnx⟩ := hrel
     have hsz2 := hnx.size
     have j0 : (0 : Int) <= (j : Int) := by omega
     have jn : (j : Int) <= 100000000 := by have := HWL.out; omega
     obtain ⟨c0, c1, c2⟩ := C3.out _ hnx
     by_cases hlj : j < ws.length
     ·obtain ⟨x, hx⟩ := get_some hlj
      obtain ⟨b, off, rfl, hd⟩ := WC.out j x hx
      obtain ⟨e0, e1, e2⟩ := hd wr hnx
      have ba := below_alloc wr (.cells #[.int .u32 (iv x.1), .int .i64 x.2.1, .int .i64 x.2.2] 60)
      have BX := hid (fun (W : World) h => cells3 (w := wr) (a := .int .u32 (iv x.1)) (b := .int .i64 x.2.1) (c := .int .i64 x.2.2) (t := 60) W h)
      have O1 := hid (own_below hown ba)
      obtain ⟨wa, hwa⟩ : ∃ wa : World, wr.alloc (.cells #[.int .u32 (iv x.1), .int .i64 x.2.1, .int .i64 x.2.2] 60) = wa := ⟨_, rfl⟩
      rw [hwa] at ba BX O1
      have N1 := hid (hnx.trans (ba.mono hsz2))
      have WA := hid hwa
      have W1 := hid (WI.out x wa N1.out)
      have SN := hid (show edgO O (ws.take (j + 1)) = edgO O (ws.take j) ++ [O &&& ~~~ x.1] by unfold edgO; rw [take_next hx, List.map_append]; rfl)
      have OLE := hid (show (edgO O (ws.take j)).length <= 100000000 by unfold edgO; rw [List.length_map]; have := List.length_take_le j ws; have := HWL.out; omega)
      have HX := hid hx
      have HLJ := hid hlj
      obtain ⟨f0, f1, f2⟩ := BX.out _ (Below.refl _ _)
      obtain ⟨g0, g1, g2⟩ := C3.out _ N1.out
      clear hx hd hown hnx ba hwa hlj
      cases hwb : WB x with
      | false =>
       rw [hwb] at W1
       have RF := hid (show RES = false by rw [FC.out, all_hit HX.out hwb, Bool.and_false]; rfl)
       clear hwb
       go_upto_region 17 with fail
       rw [WA.out]
       go_wp2_with fail
       refine W1.out.mono ?_
       rintro e w4 ⟨rfl, hb4⟩
       have BF := hid (B0.out.trans ((N1.out.trans (hb4.mono N1.out.size)).mono hsz0))
       clear hb4 c0 c1 c2 f0 f1 f2 g0 g1 g2
       go_wp2_with fail
       go_ret
       exact ⟨ret_bool RF.out.symm, BF.out⟩
      | true =>
       rw [hwb] at W1
       have HN := hid (all_next HX.out hwb HQ.out)
       clear hwb
       go_upto_region 17 with fail
       rw [WA.out]
       go_wp2_with fail
       refine W1.out.mono ?_
       rintro e w4 ⟨rfl, hb4⟩
       have O4 := hid (own_below O1.out hb4)
       have N4 := hid (N1.out.trans (hb4.mono N1.out.size))
       obtain ⟨h0', h1', h2'⟩ := BX.out _ hb4
       obtain ⟨out, hout⟩ : ∃ out, edgO O (ws.take j) = out := ⟨_, rfl⟩
       rw [hout] at O4 SN OLE
       have S4 := hid N4.out.size
       clear hb4 c0 c1 c2 f0 f1 f2 g0 g1 g2 hout
       go_wp2_with (at_builtin; refine wpList_push rfl _ _ 38 rfl w0.heap.size 58 (.int .u32 0) 4 undSets infoSet rfl (by decide) enc (fun _ => rfl) _ out rfl (O4.out.alloc _) ⟨w4.heap.size, 0, none⟩ (O &&& ~~~ x.1) rfl (by simp [enc]) (by have := OLE.out; omega) (by have := S4.out; simp; omega) ?_)
       intro v' w5 hown' hgrow
       have N5 := hid (below_push N4.out S4.out O4.out hgrow)
       have O5 := hid (show w5.ownsRow w0.heap.size 58 1 v' (edgO O (ws.take (j + 1))).length ((edgO O (ws.take (j + 1))).map enc) by rw [SN.out]; simpa using hown')
       clear hown' hgrow h0' h1' h2'
       go_wp2_with fail
       go_roundw
       case rel => exact ⟨j + 1, by have := HLJ.out; omega, by go_num, O5.out, hid HN.out, N5.out⟩
       case measure => have := HLJ.out; simp [intOf]; omega
     ·have hje : ws.length <= j := by omega
      rw [List.take_of_length_le hje] at hown
      have HAW := hid (show ws.all WB = true by have h := HQ.out; rwa [List.take_of_length_le hje] at h)
      have EL := hid (show (edgO O ws).length <= 100000000 by unfold edgO; rw [List.length_map]; exact HWL.out)
      have RED := hid (RdE.of_owns hown (by have := EL.out; omega))
      have NXE := hid hnx
      obtain ⟨E, hE⟩ : ∃ E, edgO O ws = E := ⟨_, rfl⟩
      rw [hE] at EL RED FC
      have FC2 := hid (show RES = (validS ats.length (keepS downR E) == 0 && decide (resS ats.length (keepS downR E) = lhs)) by rw [FC.out, HAL.out, HAW.out]; simp)
      have MN := hid (fun (W : World) (h : Below wr.heap.size wr W) => aminimal_any E u14 W (RED.out.below h) (by have := EL.out; omega))
      have AL := hid (fun (v : Value) (W : World) (hv : RdE enc W v (keepS downR E)) => allW ats.length (keepS downR E) v W hv)
      have KL := hid (Nat.le_trans (keepS_length downR E) EL.out)
      have EQL := hid (fun (v : Value) (W : World) (hv : RdE enc W v (resS ats.length (keepS downR E))) (h : Below w0.heap.size w0 W) => equalS_any (resS ats.length (keepS downR E)) lhs v (.slice lo lhs.length lcap) W hv (LHS.out.below h))
      obtain ⟨ER, hER⟩ : ∃ ER, validS ats.length (keepS downR E) = ER := ⟨_, rfl⟩
      obtain ⟨RS, hRS⟩ : ∃ RS, resS ats.length (keepS downR E) = RS := ⟨_, rfl⟩
      rw [hER] at AL FC2
      rw [hRS] at AL FC2 EQL
      have hszr := hnx.size
      have HS := hid (fun (W : World) (h : Below wr.heap.size wr W) => show Below wr.heap.size wr W /\ W.cell? ⟨w.heap.size, 0, none⟩ = some (.string nm) /\ W.cell? ⟨w.heap.size, 1, none⟩ = some (.slice ao ats.length acap) /\ W.cell? ⟨w.heap.size, 2, none⟩ = some rv from ⟨h, C3.out W (NXE.out.trans (h.mono hszr))⟩)
      have KB := hid (show Below w.heap.size w wr from B0.out.trans (NXE.out.mono hsz0))
      clear hown hnx hje hE hER hRS
      go_wp2_with fail
      go_region_held3 (fun W => Below wr.heap.size wr W /\ W.cell? ⟨w.heap.size, 0, none⟩ = some (.string nm) /\ W.cell? ⟨w.heap.size, 1, none⟩ = some (.slice ao ats.length acap) /\ W.cell? ⟨w.heap.size, 2, none⟩ = some rv)
       (first | exact HS.out _ (Below.refl _ _).drew | exact HS.out _ (by assumption))
       (first
        | (go_at_call 75; have hS := And.left ‹Below wr.heap.size wr _ /\ _ /\ _›; refine (MN.out _ hS).mono ?_; rintro e wa ⟨va, rfl, hoa, hba⟩; have hLa := hS.trans (hba.mono hS.size); have hra := RdE.of_owns hoa (by have := KL.out; omega); clear hba hS hoa)
        | (go_at_call 24; have hS := And.left ‹Below wr.heap.size wr _ /\ _ /\ _›; refine (AL.out _ _ (by first | exact hra | exact RdE.below hra (Below.refl _ _).drew)).mono ?_; rintro e wb ⟨vb, rfl, hob, hlb, hbb⟩; have hLb := hS.trans (hbb.mono hS.size); have hrb := RdE.of_owns hob (by omega); clear hbb hS hob hlb))
      all_goals
       have RB := hid hrb
       have NB := hid hLb
       obtain ⟨bo, bn, bcap, hbf⟩ : ∃ bo bn bcap, vb = .slice bo bn bcap := by obtain ⟨o, c, h, -⟩ := hrb.split; exact ⟨o, _, c, h⟩
       subst hbf
       clear hra hrb hLa hLb
       by_cases hE0 : ER = 0
       ·subst hE0
        rw [show ((0 : Int) == 0) = true from rfl, Bool.true_and] at FC2
        have EQ1 := hid (EQL.out _ wb RB.out (NXE.out.trans (NB.out.mono hszr)))
        rw [<- FC2.out] at EQ1
        go_wp2_with fail
        refine EQ1.out.mono ?_
        rintro e w' ⟨rfl, q, rfl⟩
        have BF := hid (below_drewN' (KB.out.trans (NB.out.mono KB.out.size)) q)
        go_wp2_with fail
        go_ret
        exact ⟨by first | rfl | exact ret_bool rfl, BF.out⟩
       ·have RF := hid (show RES = false by rw [FC2.out, show (ER == 0) = false from beq_eq_false_iff_ne.2 hE0]; rfl)
        have hne : (ER == 0) = false := beq_eq_false_iff_ne.2 hE0
        have BF := hid (KB.out.trans (NB.out.mono KB.out.size))
        have H0 := hid hE0
        clear hE0
        go_wp2_with fail
        go_ret
        exact ⟨ret_bool RF.out.symm, BF.out⟩
 ·have FB : fchkB t a lhs ws = false := by unfold fchkB; rw [decide_eq_false h0]; rfl
  rw [FB]
  obtain ⟨lo, lcap, rfl, -⟩ := hl.split
  obtain ⟨wo', wcap, rfl, -⟩ := RdW.split hw
  obtain ⟨nm, ats, rs⟩ := t
  simp only at FA
  generalize faE (nm, ats, rs) a = ke at *
  have hne : (ke == 0) = false := beq_eq_false_iff_ne.2 h0
  have H0 := hid h0
  clear ht hT h0 FB hl hw hok
  go_enter Tryz.func28, Tryz.ntmps28
  go_wp2_with fail
  rw [W0.out]
  go_wp2_with fail
  refine (FA.out _ (Below.refl _ _)).mono ?_
  rintro e w1 ⟨rfl, hb1⟩
  have H1 := hid (B0.out.trans (hb1.mono hsz0))
  clear hb1 c0 c1 c2
  go_wp2_with fail
  go_ret
  exact ⟨by first | rfl | exact ret_bool rfl, H1.out⟩

end Go.Proofs.YtalejolehccclaaGreatDoor
