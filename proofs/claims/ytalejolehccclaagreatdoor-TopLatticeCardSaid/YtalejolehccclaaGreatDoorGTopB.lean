/- Texts that belong together, in one file. -/
import Derived.Test.YtalejolehccclaaGreatDoorGPtA
import Derived.Test.YtalejolehccclaaGreatDoorGKm1
import Derived.Test.YtalejolehccclaaGreatDoorAfter
import Derived.Test.YtalejolehccclaaGreatDoorGPlain
import Derived.Test.YtalejolehccclaaGreatDoorGTabA
import Derived.Test.YtalejolehccclaaGreatDoorGTopA
import Derived.Test.YtalejolehccclaaGreatDoorApp0
/- Canonical statements as keys of a map; the memory of the miner of order statements. -/
namespace Go.Proofs.YtalejolehccclaaGreatDoor
open Go.RowKit
set_option linter.unusedVariables false
set_option linter.unusedSimpArgs false

abbrev C3S := S × Int × Int
abbrev CK := { c : C3S // inI c.2.1 /\ inI c.2.2 }
def vC3 (c : C3S) : Value := .agg #[.int .u32 (iv c.1), .int .i64 c.2.1, .int .i64 c.2.2]
theorem rowC : (78 : TypeId) < Tryz.prog.types.size := of_decide_eq_true (by kernel_rfl)
theorem lawC : Go.WideMaps.KeyLaw Tryz.prog 78 := Go.deep_law_laid laidA (m := 2) (by omega) rowC (by kernel_rfl) (by rw [Tryz.underlying78])
theorem sizC : ∃ m, Tryz.prog.types.size = m + 1 := Nat.exists_eq_succ_of_ne_zero (Nat.ne_of_gt (Nat.lt_of_le_of_lt (Nat.zero_le _) rowC))
theorem wfS (s : S) : (Lit.int .u32 (iv s)).wf = true := by
 have := iv_nonneg s; have := iv_lt s
 simp [Lit.wf, IntKind.min, IntKind.max, IntKind.bits, IntKind.signed]; omega
theorem keyC (c : CK) : keyOf Tryz.prog 78 (vC3 c.1) = some (.string (keyBytes [.int .u32 (iv c.1.1), .int .i64 c.1.2.1, .int .i64 c.1.2.2])) := by
 obtain ⟨m, hm⟩ := sizC
 have hkt : Tryz.prog.keyType 78 = true := by kernel_rfl
 have hcs : Tryz.prog.cellsOf 78 = 3 := by kernel_rfl
 have h1 : Tryz.prog.cellsOf 58 = 1 := by kernel_rfl
 have h2 : Tryz.prog.cellsOf 3 = 1 := by kernel_rfl
 have w1 := wfS c.1.1
 have w2 := wfI c.2.1
 have w3 := wfI c.2.2
 unfold keyOf vC3
 simp only [Tryz.underlying78]
 rw [if_pos (by simp [hkt, Value.formed, Tryz.underlying78, hcs]), hm]
 unfold Program.keyLits
 simp only [Tryz.underlying78, Value.cells]
 rw [if_pos (by simp [hcs])]
 simp [Program.keyLits, undSetK, undIA, h1, h2, w1, w2, w3]
def canKeys : KeyE Tryz.prog 78 CK where
 law := Go.Maps.Keyed.of_law lawC
 val c := vC3 c.1
 lit c := .string (keyBytes [.int .u32 (iv c.1.1), .int .i64 c.1.2.1, .int .i64 c.1.2.2])
 key := keyC
 inj x y h := by
  have h2 : vC3 x.1 = vC3 y.1 := lawC.inj (keyC x) (by rw [keyC y, <- h])
  unfold vC3 at h2
  simp only [Value.agg.injEq, Array.mk.injEq, List.cons.injEq, Value.int.injEq, true_and, and_true] at h2
  exact Subtype.ext (Prod.ext (iv_inj h2.1) (Prod.ext h2.2.1 h2.2.2))
theorem undMapCK : Tryz.prog.underlying 165 = some (.map 78 4) := by kernel_rfl
theorem zeroBk (w : World) : (zeroValue 4).run Tryz.prog w = .ok (.bool false) w := by kernel_rfl
abbrev OwnCK := OwnG canKeys (.bool false)
def Memo (SAT : C3S -> Bool) (b N : Nat) (w : World) : Prop := ∃ (n : Nat) (f : CK -> Value) (p : CK -> Bool), OwnCK w b n f p /\ n <= N /\ ∀ c, p c = true -> f c = .bool (SAT c.1)
theorem Memo.lt {SAT : C3S -> Bool} {b N : Nat} {w : World} (h : Memo SAT b N w) : b < w.heap.size := by obtain ⟨n, f, p, h1, -⟩ := h; exact h1.lt
theorem Memo.below {SAT : C3S -> Bool} {b N : Nat} {w w' : World} (h : Memo SAT b N w) (hb : Below w.heap.size w w') : Memo SAT b N w' := by
 obtain ⟨n, f, p, h1, h2⟩ := h; exact ⟨n, f, p, h1.below hb, h2⟩
theorem Memo.mono {SAT : C3S -> Bool} {b N M : Nat} {w : World} (h : Memo SAT b N w) (hm : N <= M) : Memo SAT b M w := by
 obtain ⟨n, f, p, h1, h2, h3⟩ := h; exact ⟨n, f, p, h1, by omega, h3⟩
theorem Memo.kept {SAT : C3S -> Bool} {b N : Nat} {w w' : World} {row : Option Nat} (h : Memo SAT b N w) (hg : w.grownBy w' row) (hne : some b ≠ row) : Memo SAT b N w' := by
 obtain ⟨n, f, p, h1, h2⟩ := h; exact ⟨n, f, p, h1.kept hg hne, h2⟩
theorem Memo.made (SAT : C3S -> Bool) (N : Nat) (w : World) : Memo SAT w.heap.size N (w.alloc (.map #[] 0)) :=
 ⟨0, _, _, OwnG.made canKeys _ w, Nat.zero_le _, fun _ h => by cases h⟩

end Go.Proofs.YtalejolehccclaaGreatDoor

/- The walk of ordering.compare. -/
namespace Go.Proofs.YtalejolehccclaaGreatDoor
open Go.RowKit
set_option linter.unusedVariables false

def cmpA (xs ys : List V3) (a : Nat) : Int := vcmp (xs.getD a noV) (ys.getD a noV)
def cmpOn (xs ys : List V3) : List Nat -> Int
 | [] => 0
 | a :: l => if cmpA xs ys a = 0 then cmpOn xs ys l else cmpA xs ys a
theorem cmpOn_skip {xs ys : List V3} : ∀ {l : List Nat} {k : Nat} {a : Nat}, l[k]? = some a -> (∀ b ∈ l.take k, cmpA xs ys b = 0) -> cmpA xs ys a ≠ 0 -> cmpOn xs ys l = cmpA xs ys a := by
 intro l
 induction l with
 | nil => intro k a h; simp at h
 | cons c l ih =>
  intro k a h h0 hn
  cases k with
  | zero => simp at h; subst h; unfold cmpOn; rw [if_neg hn]
  | succ k =>
   unfold cmpOn
   rw [if_pos (h0 c (by simp))]
   exact ih (by simpa using h) (fun b hb => h0 b (by simp [hb])) hn
theorem cmpOn_all {xs ys : List V3} : ∀ {l : List Nat}, (∀ b ∈ l, cmpA xs ys b = 0) -> cmpOn xs ys l = 0 := by
 intro l
 induction l with
 | nil => intro _; rfl
 | cons c l ih => intro h; unfold cmpOn; rw [if_pos (h c (by simp))]; exact ih fun b hb => h b (by simp [hb])

theorem ret_i64 {a b : Int} (h : a = b) : Ending.returned (.int .i64 a) = Ending.returned (.int .i64 b) := by rw [h]
attribute [local irreducible] Go.wpQuiet
set_option maxHeartbeats 1600000 in
set_option maxRecDepth 100000 in
theorem ocmp_any (i j : Int) (xs ys : List V3) (ls : List Nat) (u v lv : Value) (w : World) (hu : RdV w u xs) (hv : RdV w v ys) (hl : RdE encI w lv ls) (hxy : ys.length = xs.length) (hin : ∀ a ∈ ls, a < xs.length) (hll : ls.length <= 64) :
  Calls Tryz.prog 211 #[.agg #[.int .i64 i, u], .agg #[.int .i64 j, v], lv] w fun e w' => e = .returned (.int .i64 (cmpOn xs ys ls)) /\ Below w.heap.size w w' := by
 have hb1 := below_alloc w (.cells #[.int .i64 i, u] 87)
 have C1 := hid (fun W h => cells2 (w := w) (a := .int .i64 i) (b := u) (t := 87) W h)
 obtain ⟨w1, hw1⟩ : ∃ w1 : World, w.alloc (.cells #[.int .i64 i, u] 87) = w1 := ⟨_, rfl⟩
 rw [hw1] at hb1 C1
 have hs1 : w1.heap.size = w.heap.size + 1 := by rw [<- hw1]; simp
 have hb2 := below_alloc w1 (.cells #[.int .i64 j, v] 87)
 have C2 := hid (fun W h => cells2 (w := w1) (a := .int .i64 j) (b := v) (t := 87) W h)
 obtain ⟨w2, hw2⟩ : ∃ w2 : World, w1.alloc (.cells #[.int .i64 j, v] 87) = w2 := ⟨_, rfl⟩
 rw [hw2] at hb2 C2
 have B2 := hid (hb1.trans (hb2.mono hb1.size))
 have CC := hid (fun (W : World) (h : Below w2.heap.size w2 W) => (⟨(C1.out W (hb2.trans (h.mono hb2.size))).2, by have := (C2.out W h).2; rwa [hs1] at this⟩ : W.cell? ⟨w.heap.size, 1, none⟩ = some u /\ W.cell? ⟨w.heap.size + 1, 1, none⟩ = some v))
 have WW := hid (show (w.alloc (.cells #[.int .i64 i, u] 87)).alloc (.cells #[.int .i64 j, v] 87) = w2 by rw [hw1, hw2])
 have U := hid (RdC.below hu B2.out)
 have V := hid (RdC.below hv B2.out)
 have LL := hid (hl.below B2.out)
 clear hb1 hb2 C1 C2 hw1 hw2 hs1 hu hv hl
 obtain ⟨uo, ucap, rfl, hul, huc⟩ := RdV.split U.out
 obtain ⟨vo, vcap, rfl, hvl, hvc⟩ := RdV.split V.out
 obtain ⟨lo, lcap, rfl, -, hlc⟩ := LL.out.split
 have UC := hid huc
 have VC := hid hvc
 have LC := hid hlc
 have HIN := hid hin
 have HLL := hid hll
 clear huc hvc hlc hin hll
 obtain ⟨c1, d1⟩ := CC.out w2 (Below.refl _ _)
 have HXY := hid hxy
 rw [hxy] at CC d1 V WW ⊢
 obtain ⟨R, hR⟩ : ∃ R, cmpOn xs ys ls = R := ⟨_, rfl⟩
 have HR := hid hR
 rw [hR]
 clear hxy hvl hR
 go_enter Tryz.func211, Tryz.ntmps211
 go_wp2_with fail
 rw [WW.out]
 go_wp2_with fail
 go_loopw [12] (fun idx wr => ∃ k : Nat, k <= ls.length /\ idx = .int .i64 k /\ Hid (∀ b ∈ ls.take k, cmpA xs ys b = 0) /\ Below w2.heap.size w2 wr) (fun idx _ => ls.length - (intOf idx).toNat)
 case atStart => exact ⟨0, Nat.zero_le _, rfl, hid (fun b hb => by simp at hb), Below.refl _ _⟩
 case round =>
  obtain ⟨k, hk, rfl, HA, hnx⟩ := hrel
  have hsz := hnx.size
  have k0 : (0 : Int) <= (k : Int) := by omega
  have k1 : (k : Int) <= 64 := by have := HLL.out; omega
  by_cases hlt : k < ls.length
  ·obtain ⟨a, ha⟩ := get_some hlt
   obtain ⟨lb, loff, rfl, hld⟩ := LC.out k a ha
   have e0 := hld wr hnx
   unfold encI at e0
   have han := HIN.out a (List.mem_of_getElem? ha)
   obtain ⟨x, hx⟩ := get_some han
   obtain ⟨y, hy⟩ := get_some (show a < ys.length by rw [HXY.out]; exact han)
   obtain ⟨b, off, rfl, hd⟩ := UC.out a x hx
   obtain ⟨b', off', rfl, hd'⟩ := VC.out a y hy
   obtain ⟨f0, f1, f2⟩ := hd wr hnx
   obtain ⟨g0, g1, g2⟩ := hd' wr hnx
   obtain ⟨c1', d1'⟩ := CC.out _ hnx
   have CA := hid (show cmpA xs ys a = vcmp x y by unfold cmpA; rw [List.getD_eq_getElem?_getD, List.getD_eq_getElem?_getD, hx, hy]; rfl)
   have SK := hid (fun (h0 : ∀ b ∈ ls.take k, cmpA xs ys b = 0) (hn : cmpA xs ys a ≠ 0) => cmpOn_skip ha h0 hn)
   have TN := hid (take_next ha)
   have CV := hid (fun z : After wr => Calls.after z (vcompare_any x y z.world))
   have m0 := fun z : After wr => After.cell f0 z
   have m1 := fun z : After wr => After.cell f1 z
   have m2 := fun z : After wr => After.cell f2 z
   have m3 := fun z : After wr => After.cell g0 z
   have m4 := fun z : After wr => After.cell g1 z
   have m5 := fun z : After wr => After.cell g2 z
   have m6 := fun z : After wr => After.cell c1' z
   have m7 := fun z : After wr => After.cell d1' z
   have HLT := hid hlt
   have HAN := hid han
   have NX := hid hnx
   have a0 : (0 : Int) <= (a : Int) := by omega
   have a1 : (a : Int) < (xs.length : Int) := by omega
   obtain ⟨vc, hvc⟩ : ∃ vc, vcmp x y = vc := ⟨_, rfl⟩
   rw [hvc] at CV CA
   clear hvc hd hd' hx hy ha c1 d1 hld hnx
   by_cases hz : vc = 0
   ·have z1 : (vc == 0) = true := by rw [hz]; rfl
    have z2 : (vc != 0) = false := by rw [hz]; rfl
    have HZ := hid hz
    clear hz
    go_wp2_with fail
    refine wp_region_after (by kernel_rfl) (by kernel_rfl) ?_
    repeat (any_goals (quiet_step (first | exact CV.out _)))
    refine wpQuiet_nil ?_
    intro wq hbq
    have NQ := hid (NX.out.trans (hbq.mono hsz))
    clear hbq m0 m1 m2 m3 m4 m5 m6 m7 CV
    go_wp2_with fail
    go_roundw
    case rel => exact ⟨k + 1, by have := HLT.out; omega, by go_num, hid (by rw [TN.out]; intro b hb; rcases List.mem_append.1 hb with h | h; exact HA.out b h; rw [List.mem_singleton.1 h, CA.out, HZ.out]), NQ.out⟩
    case measure => have := HLT.out; simp [intOf]; omega
   ·have z1 : (vc == 0) = false := beq_eq_false_iff_ne.2 hz
    have z2 : (vc != 0) = true := by unfold bne; rw [z1]; rfl
    have RF := hid (show R = vc by rw [<- HR.out, SK.out HA.out (by rw [CA.out]; exact hz), CA.out])
    have HZ := hid hz
    clear hz
    go_wp2_with fail
    refine wp_region_after (by kernel_rfl) (by kernel_rfl) ?_
    repeat (any_goals (quiet_step (first | exact CV.out _)))
    refine wpQuiet_nil ?_
    intro wq hbq
    have BF := hid (B2.out.trans ((NX.out.trans (hbq.mono hsz)).mono B2.out.size))
    clear hbq m0 m1 m2 m3 m4 m5 m6 m7 CV
    go_wp2_with fail
    go_ret
    exact ⟨ret_i64 RF.out.symm, BF.out⟩
  ·have RF := hid (show R = 0 by rw [<- HR.out]; exact cmpOn_all (by have h := HA.out; rwa [List.take_of_length_le (by omega)] at h))
   have BF := hid (B2.out.trans (hnx.mono B2.out.size))
   clear hnx
   go_wp2_with fail
   go_ret
   exact ⟨ret_i64 RF.out.symm, BF.out⟩

end Go.Proofs.YtalejolehccclaaGreatDoor

/- The walks of ordering's check and Satisfies. -/
namespace Go.Proofs.YtalejolehccclaaGreatDoor
open Go.RowKit
set_option linter.unusedVariables false

def prsT : List Row3 -> List (Row3 × Row3)
 | [] => []
 | r :: rs => rs.map (fun q => (r, q)) ++ prsT rs
theorem prsT_at {rs : List Row3} {i : Nat} {r : Row3} (h : rs[i]? = some r) : prsT (rs.drop i) = (rs.drop (i + 1)).map (fun q => (r, q)) ++ prsT (rs.drop (i + 1)) := by rw [drop_at h]; rfl
def ctxL (m : Nat) (X : S) : List Nat := (List.range m).filter fun a => X.getLsbD a
theorem ctxL_next (k : Nat) (X : S) : ctxL (k + 1) X = ctxL k X ++ if X.getLsbD k = true then [k] else [] := by
 unfold ctxL; rw [List.range_succ, List.filter_append, List.filter_cons, List.filter_nil]
theorem ctxL_in {m : Nat} {X : S} : ∀ a ∈ ctxL m X, a < m := fun a h => List.mem_range.1 (List.mem_filter.1 h).1
theorem ctxL_len (m : Nat) (X : S) : (ctxL m X).length <= m := by
 unfold ctxL; exact Nat.le_trans (List.length_filter_le _ _) (by simp)
def badQ (A : Nat) (B : Int) (xs ys : List V3) : Bool := if B < 0 then cmpA xs ys A != 0 else decide (IntKind.i64.wrap (cmpA xs ys A * cmpA xs ys B.toNat) < 0)
def badP (ctx : List Nat) (A : Nat) (B : Int) (p : Row3 × Row3) : Bool := (cmpOn p.1.2.2 p.2.2.2 ctx == 0) && badQ A B p.1.2.2 p.2.2.2
def satC (m : Nat) (rs : List Row3) (X : S) (A : Nat) (B : Int) : Bool := ((prsT rs).find? (badP (ctxL m X) A B)).isNone

theorem sat1_any (m : Nat) (X : S) (A : Nat) (B : Int) (b : Nat) (w : World) (hA : A < m) (hB : -1 <= B) (hB2 : B < (m : Int)) (hX : sub X (fullN m)) (hm : m <= 16)
  (c0 : w.cell? ⟨b, 0, none⟩ = some (.int .u32 (iv X))) (c1 : w.cell? ⟨b, 1, none⟩ = some (.int .i64 (A : Int))) (c2 : w.cell? ⟨b, 2, none⟩ = some (.int .i64 B)) :
  Calls Tryz.prog 209 #[.int .i64 (m : Int), .pointer (some ⟨b, 0, none⟩)] w fun e w' => e = .returned (.bool true) /\ w = w' := by
 have d1 : decide ((A : Int) ≥ 0) = true := by simp
 have d2 : decide ((A : Int) < (m : Int)) = true := by simp; omega
 have d3 : decide (B ≥ -1) = true := by simp; omega
 have d4 : decide (B < (m : Int)) = true := by simp; omega
 have m0 : (0 : Int) <= (m : Int) := by omega
 have SX := sub_full.1 hX
 have HX := hid hX
 have HA := hid hA
 have HB := hid (And.intro hB hB2)
 clear hX hA hB hB2
 go_enter Tryz.func209, Tryz.ntmps209
 go_wp2_with fail
 go_ret
 exact ⟨by first | rfl | simp, rfl⟩

set_option maxHeartbeats 800000 in
set_option maxRecDepth 100000 in
theorem ocheck_any (t : T3) (av rv : Value) (X : S) (A : Nat) (B : Int) (b : Nat) (w : World) (ht : RdT w av rv t) (hE : tabE t = 0) (hA : A < t.2.1.length) (hB : -1 <= B) (hB2 : B < (t.2.1.length : Int)) (hX : sub X (fullN t.2.1.length)) (hm : t.2.1.length <= 16)
  (c0 : w.cell? ⟨b, 0, none⟩ = some (.int .u32 (iv X))) (c1 : w.cell? ⟨b, 1, none⟩ = some (.int .i64 (A : Int))) (c2 : w.cell? ⟨b, 2, none⟩ = some (.int .i64 B)) :
  Calls Tryz.prog 210 #[.agg #[.string t.1, av, rv], .func (.func 209) #[] #[.pointer (some ⟨b, 0, none⟩)]] w fun e w' => e = .returned (.int .i64 0) /\ Below w.heap.size w w' := by
 have hb0 := below_alloc w (.cells #[.string t.1, av, rv] 32)
 have C3 := hid (fun W h => cells3 (w := w) (a := .string t.1) (b := av) (c := rv) (t := 32) W h)
 have T0 := hid (ht.below hb0)
 obtain ⟨w0, hw0⟩ : ∃ w0 : World, w.alloc (.cells #[.string t.1, av, rv] 32) = w0 := ⟨_, rfl⟩
 rw [hw0] at hb0 C3 T0
 have B0 := hid hb0
 have W0 := hid hw0
 have hsz0 := hb0.size
 clear hb0 hw0
 have VA := hid (tvalid_any t av rv w0 T0.out)
 rw [hE] at VA
 have hbl := World.block_lt_of_cell? _ _ c0
 have SA := hid (fun (W : World) (h : Below w.heap.size w W) => sat1_any t.2.1.length X A B b W hA hB hB2 hX hm ((h.cell (p := ⟨b, 0, none⟩) hbl).trans c0) ((h.cell (p := ⟨b, 1, none⟩) hbl).trans c1) ((h.cell (p := ⟨b, 2, none⟩) hbl).trans c2))
 obtain ⟨nm, ats, rs⟩ := t
 obtain ⟨ao, acap, hva, -⟩ := T0.out.1.split
 simp only at hva
 subst hva
 replace SA := hid (fun (W : World) (h : Below w.heap.size w W) => show Calls Tryz.prog 209 #[.int .i64 (ats.length : Int), .pointer (some ⟨b, 0, none⟩)] W fun e w' => e = .returned (.bool true) /\ W = w' from SA.out W h)
 obtain ⟨k0, k1, k2⟩ := C3.out _ (Below.refl _ _)
 have eg := enters _ _ _ Tryz.func209 (by kernel_rfl) rfl
 clear ht hE hA hB hB2 hX hm c0 c1 c2 hbl
 go_enter Tryz.func210, Tryz.ntmps210
 go_wp2_with fail
 rw [W0.out]
 go_wp2_with fail
 refine VA.out.mono ?_
 rintro e w1 ⟨rfl, hb1⟩
 have B1 := hid (B0.out.trans (hb1.mono hsz0))
 obtain ⟨k0', k1', k2'⟩ := C3.out _ hb1
 clear hb1 k0 k1 k2 VA
 go_wp2_with fail
 refine (SA.out _ B1.out).mono ?_
 rintro e w' ⟨rfl, rfl⟩
 go_wp2_with fail
 go_ret
 exact ⟨rfl, B1.out⟩

theorem getD_atT {xs : List V3} {a : Nat} {x : V3} (h : xs[a]? = some x) : xs.getD a noV = x := by rw [List.getD_eq_getElem?_getD, h]; rfl
attribute [local irreducible] Go.wpQuiet
set_option maxHeartbeats 6400000 in
set_option maxRecDepth 100000 in
theorem osat_any (t : T3) (av rv : Value) (X : S) (A : Nat) (B : Int) (w : World) (ht : RdT w av rv t) (hk : tabE2 t = 0) (hA : A < t.2.1.length) (hB : -1 <= B) (hB2 : B < (t.2.1.length : Int)) (hX : sub X (fullN t.2.1.length)) :
  Calls Tryz.prog 194 #[.agg #[.string t.1, av, rv], .agg #[.int .u32 (iv X), .int .i64 (A : Int), .int .i64 B]] w fun e w' => e = .returned (.tuple #[.bool (satC t.2.1.length t.2.2 X A B), .int .i64 0]) /\ Below w.heap.size w w' := by
 obtain ⟨h16, h200, hrows⟩ := tabE2_ok hk
 have hE : tabE t = 0 := by
  apply Classical.byContradiction
  intro h
  unfold tabE2 at hk
  rw [if_pos h] at hk
  exact h hk
 have hb00 := below_alloc w (.cells #[.string t.1, av, rv] 32)
 have hb01 := below_alloc (w.alloc (.cells #[.string t.1, av, rv] 32)) (.cells #[.int .u32 (iv X), .int .i64 (A : Int), .int .i64 B] 78)
 have hb0 := hb00.trans (hb01.mono hb00.size)
 have CT := hid (fun (W : World) (h : Below ((w.alloc (.cells #[.string t.1, av, rv] 32)).alloc (.cells #[.int .u32 (iv X), .int .i64 (A : Int), .int .i64 B] 78)).heap.size ((w.alloc (.cells #[.string t.1, av, rv] 32)).alloc (.cells #[.int .u32 (iv X), .int .i64 (A : Int), .int .i64 B] 78)) W) => cells3 (w := w) (a := .string t.1) (b := av) (c := rv) (t := 32) W (hb01.trans (h.mono hb01.size)))
 have CC := hid (fun (W : World) (h : Below ((w.alloc (.cells #[.string t.1, av, rv] 32)).alloc (.cells #[.int .u32 (iv X), .int .i64 (A : Int), .int .i64 B] 78)).heap.size ((w.alloc (.cells #[.string t.1, av, rv] 32)).alloc (.cells #[.int .u32 (iv X), .int .i64 (A : Int), .int .i64 B] 78)) W) => show W.cell? ⟨w.heap.size + 1, 0, none⟩ = some (.int .u32 (iv X)) /\ W.cell? ⟨w.heap.size + 1, 1, none⟩ = some (.int .i64 (A : Int)) /\ W.cell? ⟨w.heap.size + 1, 2, none⟩ = some (.int .i64 B) from by have := cells3 (w := w.alloc (.cells #[.string t.1, av, rv] 32)) (a := .int .u32 (iv X)) (b := .int .i64 (A : Int)) (c := .int .i64 B) (t := 78) W h; rwa [show (w.alloc (.cells #[.string t.1, av, rv] 32)).heap.size = w.heap.size + 1 by simp] at this)
 have T0 := hid (ht.below hb0)
 obtain ⟨w0, hw0⟩ : ∃ w0 : World, (w.alloc (.cells #[.string t.1, av, rv] 32)).alloc (.cells #[.int .u32 (iv X), .int .i64 (A : Int), .int .i64 B] 78) = w0 := ⟨_, rfl⟩
 rw [hw0] at hb0 CT CC T0
 have B0 := hid hb0
 have W0 := hid hw0
 have hsz0 := hb0.size
 have CK := hid (fun (W : World) (h : Below w0.heap.size w0 W) => ocheck_any t av rv X A B (w.heap.size + 1) W (T0.out.below h) hE hA hB hB2 hX h16 (CC.out W h).1 (CC.out W h).2.1 (CC.out W h).2.2)
 obtain ⟨nm, ats, rs⟩ := t
 replace h16 : ats.length <= 16 := h16
 replace h200 : rs.length <= 200 := h200
 replace hA : A < ats.length := hA
 replace hB2 : B < (ats.length : Int) := hB2
 have HR := hid (show ∀ r ∈ rs, r.2.2.length = ats.length from fun r hr => (hrows r hr).1)
 obtain ⟨ao, acap, hva, -⟩ := T0.out.1.split
 obtain ⟨ro, rcap, hvr, hrl, hrc⟩ := RdR.split T0.out.2
 have RC := hid hrc
 have hcap : rs.length <= rcap := by
  obtain ⟨⟨ao', cap', e, h1, _⟩, _⟩ := T0.out.2
  simp only at hvr
  rw [hvr] at e
  cases e; exact h1
 simp only at hva hvr
 subst hva hvr
 show Calls _ _ _ _ fun e w' => e = .returned (.tuple #[.bool (satC ats.length rs X A B), .int .i64 0]) /\ Below w.heap.size w w'
 obtain ⟨m, hm⟩ : ∃ m, ats.length = m := ⟨_, rfl⟩
 have OC := hid (fun (i j : Int) (xs ys : List V3) (u v lv : Value) (W : World) (hu : RdV W u xs) (hv : RdV W v ys) (hl : RdE encI W lv (ctxL m X)) (hxy : ys.length = xs.length) (hx : xs.length = m) => ocmp_any i j xs ys (ctxL m X) u v lv W hu hv hl hxy (fun a ha => by rw [hx]; exact ctxL_in a ha) (by have := ctxL_len m X; omega))
 have SC := hid (show satC m rs X A B = ((prsT rs).find? (badP (ctxL m X) A B)).isNone from rfl)
 rw [hm]
 rw [SC.out]
 obtain ⟨P, hP⟩ : ∃ P, badP (ctxL m X) A B = P := ⟨_, rfl⟩
 have BP := hid (fun (r q : Row3) => show P (r, q) = ((cmpOn r.2.2 q.2.2 (ctxL m X) == 0) && badQ A B r.2.2 q.2.2) by rw [<- hP]; rfl)
 rw [hP]
 obtain ⟨Q, hQ⟩ : ∃ Q, (prsT rs).find? P = Q := ⟨_, rfl⟩
 have HQ0 := hid hQ
 rw [hQ]
 have PN := hid (show prsT [] = [] from rfl)
 have SQ := hid (fun (i : Nat) (r : Row3) (h : rs[i]? = some r) => prsT_at h)
 rw [hm] at CK CT HR hA hB2 h16 W0
 have HM := hid hm
 have HA := hid hA
 have HB := hid (And.intro hB hB2)
 have CN := hid (fun k => ctxL_next k X)
 have CL := hid (fun k => ctxL_len k X)
 obtain ⟨t0, t1, t2⟩ := CT.out _ (Below.refl _ _)
 obtain ⟨q0, q1, q2⟩ := CC.out _ (Below.refl _ _)
 have a0 : (0 : Int) <= (A : Int) := by omega
 have m0 : (0 : Int) <= (m : Int) := by omega
 have m16 : (m : Int) <= 16 := by omega
 clear ht hk hrows hrc hb00 hb01 hb0 hw0 hE hX hP hQ SC hA hB hB2 hm
 go_enter Tryz.func194, Tryz.ntmps194
 go_wp2_with fail
 rw [W0.out]
 go_wp2_with fail
 refine (CK.out _ (Below.refl _ _)).mono ?_
 rintro e w1 ⟨rfl, hb1⟩
 have N1 := hid hb1
 have hs1 := hb1.size
 clear hb1 t0 t1 t2 q0 q1 q2 CK
 obtain ⟨t0, t1, t2⟩ := CT.out _ N1.out
 go_wp2_with fail
 go_loopw [8, 25] (fun u idx wr => ∃ k : Nat, k <= m /\ idx = .int .i64 k /\ wr.ownsRow w1.heap.size 3 1 u (ctxL k X).length ((ctxL k X).map encI) /\ Below w1.heap.size w1 wr) (fun _ idx _ => m - (intOf idx).toNat)
 case atStart => exact ⟨0, Nat.zero_le _, rfl, World.ownsRow_nil _ _ _ _, Below.refl _ _⟩
 case round =>
  obtain ⟨k, hk, rfl, hown, hnx⟩ := hrel
  have hsz := hnx.size
  have k0 : (0 : Int) <= (k : Int) := by omega
  by_cases hlt : k < m
  ·have N2 := hid (N1.out.trans (hnx.mono hs1))
   obtain ⟨q0, q1, q2⟩ := CC.out _ N2.out
   have CNk := hid (CN.out k)
   have CLk := hid (CL.out k)
   obtain ⟨ks, hks⟩ : ∃ ks, ctxL k X = ks := ⟨_, rfl⟩
   rw [hks] at hown CNk CLk
   have HO := hid hown
   have HN := hid hnx
   clear hks hown hnx
   cases hq : X.getLsbD k with
   | true =>
    have hb1 : (iv (X >>> k &&& 1#32) == 1) = true := by rw [bit_test]; exact hq
    rw [hq, if_pos rfl] at CNk
    go_wp2_with (at_builtin; refine wpList_push rfl _ _ 114 rfl w1.heap.size 3 (.int .i64 0) 8 undInts infoInt rfl (by decide) encI (fun _ => rfl) _ ks rfl (HO.out.alloc _) ⟨wr.heap.size, 0, none⟩ k rfl (by simp [encI]) (by have := CLk.out; omega) (by simp; omega) ?_)
    intro v2 w2 hown2 hg2
    have NB := hid (below_push HN.out hsz HO.out hg2)
    have OB := hid (show w2.ownsRow w1.heap.size 3 1 v2 (ks ++ [k]).length ((ks ++ [k]).map encI) by simpa using hown2)
    clear hown2 hg2 q0 q1 q2 hb1
    go_wp2_with fail
    go_roundw
    case rel => exact ⟨k + 1, by omega, by go_num, by rw [CNk.out]; exact OB.out, NB.out⟩
    case measure => simp [intOf]; omega
   | false =>
    have hb1 : (iv (X >>> k &&& 1#32) == 1) = false := by rw [bit_test]; exact hq
    rw [hq, if_neg (by simp), List.append_nil] at CNk
    go_wp2_with fail
    go_roundw
    case rel => exact ⟨k + 1, by omega, by go_num, by rw [CNk.out]; exact HO.out, HN.out⟩
    case measure => simp [intOf]; omega
  ·obtain rfl : k = m := by omega
   have CLk := hid (CL.out k)
   have LX := hid (RdE.of_owns hown (by have := CLk.out; omega))
   obtain ⟨xo, xn, xcap, rfl⟩ : ∃ ao n cap, u8 = .slice ao n cap := by obtain ⟨a, c, h, -⟩ := LX.out.split; exact ⟨a, _, c, h⟩
   have LXW := hid (fun (W : World) (h : Below wr.heap.size wr W) => LX.out.below h)
   have NC := hid (N1.out.trans (hnx.mono hs1))
   have szc := NC.out.size
   obtain ⟨wc, rfl⟩ : ∃ wc : World, wc = wr := ⟨_, rfl⟩
   obtain ⟨t0, t1, t2⟩ := CT.out _ NC.out
   clear hown hnx hlt LX
   go_wp2_with fail
   go_loopw [42] (fun idx wr => ∃ i : Nat, i <= rs.length /\ idx = .int .i64 i /\ Hid ((prsT (rs.drop i)).find? P = Q) /\ Below wc.heap.size wc wr) (fun idx _ => rs.length - (intOf idx).toNat)
   case atStart => exact ⟨0, Nat.zero_le _, rfl, HQ0, Below.refl _ _⟩
   case round =>
    obtain ⟨i, hi, rfl, HP, hnx⟩ := hrel
    have hsz := hnx.size
    have N0 := hid (NC.out.trans (hnx.mono szc))
    obtain ⟨e0, e1, e2⟩ := CT.out _ N0.out
    have i0 : (0 : Int) <= (i : Int) := by omega
    by_cases hlt : i < rs.length
    ·obtain ⟨⟨rid, ru, rvs⟩, hr⟩ := get_some hlt
     obtain ⟨⟨b, off, rfl, hd⟩, hvs⟩ := RC.out i _ hr
     have HR1 := hid (HR.out _ (List.mem_of_getElem? hr))
     have HP2 := hid (show ((rs.drop (i + 1)).map (fun q => ((rid, ru, rvs), q)) ++ prsT (rs.drop (i + 1))).find? P = Q by rw [<- SQ.out i _ hr]; exact HP.out)
     have VS := hid (fun (W : World) (h : Below w0.heap.size w0 W) => show RdV W ru rvs from hvs W h)
     obtain ⟨uo, ucap, rfl, -, huc⟩ := RdV.split (VS.out wr N0.out)
     obtain ⟨x, hx⟩ := get_some (show A < rvs.length by have h1 : rvs.length = k := HR1.out; have h2 := HA.out; omega)
     obtain ⟨xb, xoff, rfl, hxd⟩ := huc A x hx
     obtain ⟨wo, rfl⟩ : ∃ wo : World, wo = wr := ⟨_, rfl⟩
     have hba := below_alloc wo (.cells #[.int .i64 rid, .slice (some ⟨xb, xoff, none⟩) rvs.length ucap] 87)
     have hnx1 := hnx.trans (hba.mono hsz)
     obtain ⟨f0, f1⟩ := hd wo N0.out
     have CA := hid (fun (W : World) h => cells2 (w := wo) (a := .int .i64 rid) (b := .slice (some ⟨xb, xoff, none⟩) rvs.length ucap) (t := 87) W h)
     obtain ⟨wa, hwa⟩ : ∃ wa : World, wo.alloc (.cells #[.int .i64 rid, .slice (some ⟨xb, xoff, none⟩) rvs.length ucap] 87) = wa := ⟨_, rfl⟩
     have hsa : wa.heap.size = wo.heap.size + 1 := by rw [<- hwa]; simp
     rw [hwa] at hba hnx1 CA
     have WA := hid hwa
     have NA := hid hnx1
     have XD := hid (fun (W : World) (h : Below wo.heap.size wo W) => hxd W h)
     have XUC := hid huc
     have XG := hid (show rvs.getD A noV = x from getD_atT hx)
     have HBA := hid hba
     have HSA := hid hsa
     have N0A := hid (NC.out.trans (hnx1.mono szc))
     obtain ⟨g0', g1', g2'⟩ := CT.out _ N0A.out
     clear hd hvs hr hba hnx hnx1 HP huc hxd hx hwa hsa
     by_cases hlast : i + 1 = rcap
     ·have hn1 : rs.length = i + 1 := by omega
      have HP3 := hid (show (prsT (rs.drop (i + 1))).find? P = Q by have h := HP2.out; rw [List.drop_eq_nil_of_le (show rs.length <= i + 1 by omega)] at h ⊢; simpa using h)
      have HN1 := hid hn1
      have hsub : rs.length - (i + 1) = 0 := by omega
      have hcc : (i : Int) + 1 = (rcap : Int) := by omega
      clear hlast hn1
      go_upto_region 15 with fail
      rw [WA.out]
      go_wp2_with fail
      go_loopw [53] (fun j wr => j = .int .i64 0 /\ Below wc.heap.size wc wr) (fun _ _ => 0)
      case atStart => exact ⟨rfl, NA.out⟩
      case round =>
       obtain ⟨rfl, hnx⟩ := hrel
       have NX := hid hnx
       have hlt0 := HN1.out
       clear hnx
       go_wp2_with fail
       go_roundw
       case rel => exact ⟨i + 1, by omega, by go_num, HP3, NX.out⟩
       case measure => simp [intOf]; omega
     ·have hlast2 : i + 1 < rcap := by omega
      obtain ⟨N, hN⟩ : ∃ N, rs.length - (i + 1) = N := ⟨_, rfl⟩
      have HN := hid hN
      have hNb : N <= 200 := by omega
      have HLT := hid hlt
      clear hlast
      go_upto_region 15 with fail
      rw [WA.out]
      go_wp2_with fail
      clear hN
      go_loopw [53] (fun j wr => ∃ k' : Nat, k' <= N /\ j = .int .i64 k' /\ Hid ((((rs.drop (i + 1)).drop k').map (fun q => ((((rid, Value.slice (some ⟨xb, xoff, none⟩) rvs.length ucap, rvs) : Row3)), q)) ++ prsT (rs.drop (i + 1))).find? P = Q) /\ Below wa.heap.size wa wr) (fun j _ => N - (intOf j).toNat)
      case atStart => exact ⟨0, Nat.zero_le _, rfl, HP2, Below.refl _ _⟩
      case round =>
       obtain ⟨k', hk2, rfl, HP4, hnx2⟩ := hrel
       have hsz2 := hnx2.size
       have j0 : (0 : Int) <= (k' : Int) := by omega
       have NXW := hid (show Below w0.heap.size w0 wr from N0A.out.trans (hnx2.mono N0A.out.size))
       have NXC := hid (show Below wc.heap.size wc wr from NA.out.trans (hnx2.mono NA.out.size))
       by_cases hlt2 : k' < N
       ·obtain ⟨⟨qid, qu, qvs⟩, hq⟩ := get_some (show i + 1 + k' < rs.length by have := HN.out; omega)
        have hqd : (rs.drop (i + 1))[k']? = some (qid, qu, qvs) := by rw [List.getElem?_drop]; exact hq
        have HK2 := hid hlt2
        have HR2 := hid (HR.out _ (List.mem_of_getElem? hq))
        obtain ⟨⟨b', off', hbb, hd'⟩, hvs'⟩ := RC.out (i + 1 + k') _ hq
        cases hbb
        have VS2 := hid (fun (W : World) (h : Below w0.heap.size w0 W) => show RdV W qu qvs from hvs' W h)
        obtain ⟨vo, vcap, rfl, -, hvc⟩ := RdV.split (VS2.out wr NXW.out)
        obtain ⟨y, hy⟩ := get_some (show A < qvs.length by have h1 : qvs.length = k := HR2.out; have h2 := HA.out; omega)
        obtain ⟨yb, yoff, rfl, hyd⟩ := hvc A y hy
        have g := hd' wr NXW.out
        rw [show off + (i + 1 + k') * 2 = off + (i + 1) * 2 + k' * 2 by omega] at g
        obtain ⟨g0, g1⟩ := g
        have hbq := below_alloc wr (.cells #[.int .i64 qid, .slice (some ⟨yb, yoff, none⟩) qvs.length vcap] 87)
        have CQ := hid (fun (W : World) h => cells2 (w := wr) (a := .int .i64 qid) (b := .slice (some ⟨yb, yoff, none⟩) qvs.length vcap) (t := 87) W h)
        obtain ⟨o0', o1'⟩ := CQ.out _ (Below.refl _ _)
        obtain ⟨p0', p1'⟩ := CA.out _ (hnx2.trans (hbq.mono hsz2))
        obtain ⟨wq, hwq⟩ : ∃ wq : World, wr.alloc (.cells #[.int .i64 qid, .slice (some ⟨yb, yoff, none⟩) qvs.length vcap] 87) = wq := ⟨_, rfl⟩
        have hsq : wq.heap.size = wr.heap.size + 1 := by rw [<- hwq]; simp
        have WQ := hid hwq
        rw [hwq] at hbq CQ
        have hnx3 := NXW.out.trans (hbq.mono NXW.out.size)
        have NX3 := hid hnx3
        have NA3 := hid (show Below wa.heap.size wa wq from hnx2.trans (hbq.mono hsz2))
        have hsz3 := hnx3.size
        have HBQ := hid hbq
        have HSQ := hid hsq
        have YD := hid (fun (W : World) (h : Below wr.heap.size wr W) => hyd W h)
        have YUC := hid hvc
        have LQ := hid (LXW.out wq (NXC.out.trans (hbq.mono NXC.out.size)))
        have OX := hid (OC.out rid qid rvs qvs _ _ _ wq (VS.out _ hnx3) (VS2.out _ hnx3) LQ.out (by rw [HR1.out, HR2.out]) HR1.out)
        have YG := hid (show qvs.getD A noV = y from getD_atT hy)
        have XA := hid (show cmpA rvs qvs A = vcmp x y by unfold cmpA; rw [XG.out, YG.out])
        have WPX := hid (BP.out (((rid, Value.slice (some ⟨xb, xoff, none⟩) rvs.length ucap, rvs) : Row3)) (((qid, Value.slice (some ⟨yb, yoff, none⟩) qvs.length vcap, qvs) : Row3)))
        have HP5 := hid (show (((((qid, Value.slice (some ⟨yb, yoff, none⟩) qvs.length vcap, qvs) : Row3)) :: ((rs.drop (i + 1)).drop (k' + 1))).map (fun q => ((((rid, Value.slice (some ⟨xb, xoff, none⟩) rvs.length ucap, rvs) : Row3)), q)) ++ prsT (rs.drop (i + 1))).find? P = Q by rw [<- drop_at hqd]; exact HP4.out)
        obtain ⟨cv, hcv0⟩ : ∃ cv, cmpOn rvs qvs (ctxL k X) = cv := ⟨_, rfl⟩
        have ax : (A : Int) < (rvs.length : Int) := by have h1 : rvs.length = k := HR1.out; have h2 := HA.out; omega
        have ay : (A : Int) < (qvs.length : Int) := by have h1 : qvs.length = k := HR2.out; have h2 := HA.out; omega
        simp only at WPX
        rw [hcv0] at OX WPX
        clear hq hqd hd' hvs' hvc hyd hy hbq hnx3 hnx2 HP4 hwq hsq hcv0
        go_wp2_with fail
        rw [WQ.out]
        clear o0' o1' p0' p1' g0 g1 e0 e1 e2 f0 f1
        refine OX.out.mono ?_
        rintro e w5 ⟨rfl, hb5⟩
        have Z5 := hid hb5
        clear hb5
        by_cases hcv : cv = 0
        ·have cz : (cv != 0) = false := by rw [hcv]; rfl
         have cz2 : (cv == 0) = true := by rw [hcv]; rfl
         rw [cz2, Bool.true_and] at WPX
         obtain ⟨p0, p1⟩ := CA.out w5 (NA3.out.trans (Z5.out.mono NA3.out.size))
         obtain ⟨o0, o1⟩ := CQ.out w5 Z5.out
         obtain ⟨x0, x1, x2⟩ := XD.out w5 (HBA.out.trans ((NA3.out.trans (Z5.out.mono NA3.out.size)).mono (by have := HSA.out; omega)))
         obtain ⟨y0, y1, y2⟩ := YD.out w5 (HBQ.out.trans (Z5.out.mono (by have := HSQ.out; omega)))
         obtain ⟨s0, s1, s2⟩ := CC.out w5 (NX3.out.trans (Z5.out.mono hsz3))
         have m0 := fun z : After w5 => After.cell p0 z
         have m1 := fun z : After w5 => After.cell p1 z
         have m2 := fun z : After w5 => After.cell o0 z
         have m3 := fun z : After w5 => After.cell o1 z
         have m4 := fun z : After w5 => After.cell x0 z
         have m5 := fun z : After w5 => After.cell x1 z
         have m6 := fun z : After w5 => After.cell x2 z
         have m7 := fun z : After w5 => After.cell y0 z
         have m8 := fun z : After w5 => After.cell y1 z
         have m9 := fun z : After w5 => After.cell y2 z
         have n0 := fun z : After w5 => After.cell s0 z
         have n1 := fun z : After w5 => After.cell s1 z
         have n2 := fun z : After w5 => After.cell s2 z
         have CV := hid (fun z : After w5 => Calls.after z (vcompare_any x y z.world))
         obtain ⟨vc, hvc⟩ : ∃ vc, vcmp x y = vc := ⟨_, rfl⟩
         rw [hvc] at CV XA
         clear hvc hcv
         go_wp2_with fail
         refine wp_region_after (by kernel_rfl) (by kernel_rfl) ?_
         repeat (any_goals (quiet_step (exact CV.out _)))
         refine wpQuiet_nil ?_
         intro wz hbz
         replace Z5 := hid (Z5.out.trans (hbz.mono Z5.out.size))
         clear hbz
         clear m0 m1 m2 m3 m4 m5 m6 m7 m8 m9 n0 n1 n2 p0 p1 o0 o1 x0 x1 x2 y0 y1 y2 s0 s1 s2
         by_cases hneg : B < 0
         ·have d1 : decide (B < 0) = true := decide_eq_true hneg
          have d2 : decide (B ≥ 0) = false := by rw [decide_eq_false_iff_not]; omega
          rw [show badQ A B rvs qvs = (vc != 0) by unfold badQ; rw [if_pos hneg, XA.out]] at WPX
          have HNEG := hid hneg
          clear hneg CV
          cases hz : (vc != 0) with
          | true =>
           rw [hz] at WPX
           obtain ⟨p0, p1⟩ := CA.out wz (NA3.out.trans (Z5.out.mono NA3.out.size))
           obtain ⟨o0, o1⟩ := CQ.out wz Z5.out
           obtain ⟨x0, x1, x2⟩ := XD.out wz (HBA.out.trans ((NA3.out.trans (Z5.out.mono NA3.out.size)).mono (by have := HSA.out; omega)))
           obtain ⟨y0, y1, y2⟩ := YD.out wz (HBQ.out.trans (Z5.out.mono (by have := HSQ.out; omega)))
           obtain ⟨s0, s1, s2⟩ := CC.out wz (NX3.out.trans (Z5.out.mono hsz3))
           have m0 := fun z : After wz => After.cell p0 z
           have m1 := fun z : After wz => After.cell p1 z
           have m2 := fun z : After wz => After.cell o0 z
           have m3 := fun z : After wz => After.cell o1 z
           have m4 := fun z : After wz => After.cell x0 z
           have m5 := fun z : After wz => After.cell x1 z
           have m6 := fun z : After wz => After.cell x2 z
           have m7 := fun z : After wz => After.cell y0 z
           have m8 := fun z : After wz => After.cell y1 z
           have m9 := fun z : After wz => After.cell y2 z
           have n0 := fun z : After wz => After.cell s0 z
           have n1 := fun z : After wz => After.cell s1 z
           have n2 := fun z : After wz => After.cell s2 z
           go_wp2_with fail
           refine wp_region_after (by kernel_rfl) (by kernel_rfl) ?_
           repeat (any_goals (quiet_step (fail)))
           refine wpQuiet_nil ?_
           intro wz hbz
           replace Z5 := hid (Z5.out.trans (hbz.mono Z5.out.size))
           clear hbz
           clear m0 m1 m2 m3 m4 m5 m6 m7 m8 m9 n0 n1 n2 p0 p1 o0 o1 x0 x1 x2 y0 y1 y2 s0 s1 s2
           have QV := hid (show Q.isNone = false by
            have h := HP5.out
            rw [List.map_cons, List.cons_append, List.find?_cons, WPX.out] at h
            rw [<- h]; rfl)
           have BF := hid (B0.out.trans ((NX3.out.trans (Z5.out.mono hsz3)).mono hsz0))
           go_wp2_with fail
           go_ret2
           exact ⟨by rw [QV.out]; rfl, BF.out⟩
          | false =>
           rw [hz] at WPX
           obtain ⟨p0, p1⟩ := CA.out wz (NA3.out.trans (Z5.out.mono NA3.out.size))
           obtain ⟨o0, o1⟩ := CQ.out wz Z5.out
           obtain ⟨x0, x1, x2⟩ := XD.out wz (HBA.out.trans ((NA3.out.trans (Z5.out.mono NA3.out.size)).mono (by have := HSA.out; omega)))
           obtain ⟨y0, y1, y2⟩ := YD.out wz (HBQ.out.trans (Z5.out.mono (by have := HSQ.out; omega)))
           obtain ⟨s0, s1, s2⟩ := CC.out wz (NX3.out.trans (Z5.out.mono hsz3))
           have m0 := fun z : After wz => After.cell p0 z
           have m1 := fun z : After wz => After.cell p1 z
           have m2 := fun z : After wz => After.cell o0 z
           have m3 := fun z : After wz => After.cell o1 z
           have m4 := fun z : After wz => After.cell x0 z
           have m5 := fun z : After wz => After.cell x1 z
           have m6 := fun z : After wz => After.cell x2 z
           have m7 := fun z : After wz => After.cell y0 z
           have m8 := fun z : After wz => After.cell y1 z
           have m9 := fun z : After wz => After.cell y2 z
           have n0 := fun z : After wz => After.cell s0 z
           have n1 := fun z : After wz => After.cell s1 z
           have n2 := fun z : After wz => After.cell s2 z
           go_wp2_with fail
           refine wp_region_after (by kernel_rfl) (by kernel_rfl) ?_
           repeat (any_goals (quiet_step (fail)))
           refine wpQuiet_nil ?_
           intro wz hbz
           replace Z5 := hid (Z5.out.trans (hbz.mono Z5.out.size))
           clear hbz
           clear m0 m1 m2 m3 m4 m5 m6 m7 m8 m9 n0 n1 n2 p0 p1 o0 o1 x0 x1 x2 y0 y1 y2 s0 s1 s2
           have HPN := hid (show (((rs.drop (i + 1)).drop (k' + 1)).map (fun q => ((((rid, Value.slice (some ⟨xb, xoff, none⟩) rvs.length ucap, rvs) : Row3)), q)) ++ prsT (rs.drop (i + 1))).find? P = Q by
            have h := HP5.out
            rw [List.map_cons, List.cons_append, List.find?_cons, WPX.out] at h
            exact h)
           have BZ := hid (NA3.out.trans (Z5.out.mono NA3.out.size))
           go_wp2_with fail
           go_roundw
           case rel => exact ⟨k' + 1, by have := HK2.out; omega, by go_num, HPN, BZ.out⟩
           case measure => have := HK2.out; simp [intOf]; omega
         ·obtain ⟨bn, rfl⟩ : ∃ bn : Nat, B = bn := ⟨B.toNat, by omega⟩
          have d1 : decide ((bn : Int) < 0) = false := by rw [decide_eq_false_iff_not]; omega
          have d2 : decide ((bn : Int) ≥ 0) = true := by rw [decide_eq_true_iff]; omega
          have b0 : (0 : Int) <= (bn : Int) := by omega
          have hbk : bn < k := by have := HB.out.2; omega
          obtain ⟨x', hx'⟩ := get_some (show bn < rvs.length by have h1 : rvs.length = k := HR1.out; omega)
          obtain ⟨y', hy'⟩ := get_some (show bn < qvs.length by have h1 : qvs.length = k := HR2.out; omega)
          obtain ⟨xb2, xoff2, he, hxd2⟩ := XUC.out bn x' hx'
          cases he
          obtain ⟨yb2, yoff2, he, hyd2⟩ := YUC.out bn y' hy'
          cases he
          have XB := hid (show cmpA rvs qvs bn = vcmp x' y' by unfold cmpA; rw [List.getD_eq_getElem?_getD, List.getD_eq_getElem?_getD, hx', hy']; rfl)
          rw [show badQ A (bn : Int) rvs qvs = decide (IntKind.i64.wrap (vc * vcmp x' y') < 0) by unfold badQ; rw [if_neg (by omega), XA.out, Int.toNat_natCast, XB.out]] at WPX
          have CV2 := hid (fun z : After wz => Calls.after z (vcompare_any x' y' z.world))
          have bx : (bn : Int) < (rvs.length : Int) := by have h1 : rvs.length = k := HR1.out; omega
          have by' : (bn : Int) < (qvs.length : Int) := by have h1 : qvs.length = k := HR2.out; omega
          obtain ⟨vd, hvd⟩ : ∃ vd, vcmp x' y' = vd := ⟨_, rfl⟩
          rw [hvd] at CV2 WPX
          have XD2 := hid (fun (W : World) (h : Below wo.heap.size wo W) => hxd2 W h)
          have YD2 := hid (fun (W : World) (h : Below wr.heap.size wr W) => hyd2 W h)
          clear hvd hneg CV hx' hy' hxd2 hyd2
          cases hz : decide (IntKind.i64.wrap (vc * vd) < 0) with
          | true =>
           rw [hz] at WPX
           obtain ⟨p0, p1⟩ := CA.out wz (NA3.out.trans (Z5.out.mono NA3.out.size))
           obtain ⟨o0, o1⟩ := CQ.out wz Z5.out
           obtain ⟨x0, x1, x2⟩ := XD.out wz (HBA.out.trans ((NA3.out.trans (Z5.out.mono NA3.out.size)).mono (by have := HSA.out; omega)))
           obtain ⟨y0, y1, y2⟩ := YD.out wz (HBQ.out.trans (Z5.out.mono (by have := HSQ.out; omega)))
           obtain ⟨s0, s1, s2⟩ := CC.out wz (NX3.out.trans (Z5.out.mono hsz3))
           have m0 := fun z : After wz => After.cell p0 z
           have m1 := fun z : After wz => After.cell p1 z
           have m2 := fun z : After wz => After.cell o0 z
           have m3 := fun z : After wz => After.cell o1 z
           have m4 := fun z : After wz => After.cell x0 z
           have m5 := fun z : After wz => After.cell x1 z
           have m6 := fun z : After wz => After.cell x2 z
           have m7 := fun z : After wz => After.cell y0 z
           have m8 := fun z : After wz => After.cell y1 z
           have m9 := fun z : After wz => After.cell y2 z
           have n0 := fun z : After wz => After.cell s0 z
           have n1 := fun z : After wz => After.cell s1 z
           have n2 := fun z : After wz => After.cell s2 z
           obtain ⟨x0', x1', x2'⟩ := XD2.out wz (HBA.out.trans ((NA3.out.trans (Z5.out.mono NA3.out.size)).mono (by have := HSA.out; omega)))
           obtain ⟨y0', y1', y2'⟩ := YD2.out wz (HBQ.out.trans (Z5.out.mono (by have := HSQ.out; omega)))
           have l4 := fun z : After wz => After.cell x0' z
           have l5 := fun z : After wz => After.cell x1' z
           have l6 := fun z : After wz => After.cell x2' z
           have l7 := fun z : After wz => After.cell y0' z
           have l8 := fun z : After wz => After.cell y1' z
           have l9 := fun z : After wz => After.cell y2' z
           go_wp2_with fail
           refine wp_region_after (by kernel_rfl) (by kernel_rfl) ?_
           repeat (any_goals (quiet_step (exact CV2.out _)))
           refine wpQuiet_nil ?_
           intro wz hbz
           replace Z5 := hid (Z5.out.trans (hbz.mono Z5.out.size))
           clear hbz
           clear m0 m1 m2 m3 m4 m5 m6 m7 m8 m9 n0 n1 n2 p0 p1 o0 o1 x0 x1 x2 y0 y1 y2 s0 s1 s2
           clear l4 l5 l6 l7 l8 l9 x0' x1' x2' y0' y1' y2' CV2
           have QV := hid (show Q.isNone = false by
            have h := HP5.out
            rw [List.map_cons, List.cons_append, List.find?_cons, WPX.out] at h
            rw [<- h]; rfl)
           have BF := hid (B0.out.trans ((NX3.out.trans (Z5.out.mono hsz3)).mono hsz0))
           go_wp2_with fail
           go_ret2
           exact ⟨by rw [QV.out]; rfl, BF.out⟩
          | false =>
           rw [hz] at WPX
           obtain ⟨p0, p1⟩ := CA.out wz (NA3.out.trans (Z5.out.mono NA3.out.size))
           obtain ⟨o0, o1⟩ := CQ.out wz Z5.out
           obtain ⟨x0, x1, x2⟩ := XD.out wz (HBA.out.trans ((NA3.out.trans (Z5.out.mono NA3.out.size)).mono (by have := HSA.out; omega)))
           obtain ⟨y0, y1, y2⟩ := YD.out wz (HBQ.out.trans (Z5.out.mono (by have := HSQ.out; omega)))
           obtain ⟨s0, s1, s2⟩ := CC.out wz (NX3.out.trans (Z5.out.mono hsz3))
           have m0 := fun z : After wz => After.cell p0 z
           have m1 := fun z : After wz => After.cell p1 z
           have m2 := fun z : After wz => After.cell o0 z
           have m3 := fun z : After wz => After.cell o1 z
           have m4 := fun z : After wz => After.cell x0 z
           have m5 := fun z : After wz => After.cell x1 z
           have m6 := fun z : After wz => After.cell x2 z
           have m7 := fun z : After wz => After.cell y0 z
           have m8 := fun z : After wz => After.cell y1 z
           have m9 := fun z : After wz => After.cell y2 z
           have n0 := fun z : After wz => After.cell s0 z
           have n1 := fun z : After wz => After.cell s1 z
           have n2 := fun z : After wz => After.cell s2 z
           obtain ⟨x0', x1', x2'⟩ := XD2.out wz (HBA.out.trans ((NA3.out.trans (Z5.out.mono NA3.out.size)).mono (by have := HSA.out; omega)))
           obtain ⟨y0', y1', y2'⟩ := YD2.out wz (HBQ.out.trans (Z5.out.mono (by have := HSQ.out; omega)))
           have l4 := fun z : After wz => After.cell x0' z
           have l5 := fun z : After wz => After.cell x1' z
           have l6 := fun z : After wz => After.cell x2' z
           have l7 := fun z : After wz => After.cell y0' z
           have l8 := fun z : After wz => After.cell y1' z
           have l9 := fun z : After wz => After.cell y2' z
           go_wp2_with fail
           refine wp_region_after (by kernel_rfl) (by kernel_rfl) ?_
           repeat (any_goals (quiet_step (exact CV2.out _)))
           refine wpQuiet_nil ?_
           intro wz hbz
           replace Z5 := hid (Z5.out.trans (hbz.mono Z5.out.size))
           clear hbz
           clear m0 m1 m2 m3 m4 m5 m6 m7 m8 m9 n0 n1 n2 p0 p1 o0 o1 x0 x1 x2 y0 y1 y2 s0 s1 s2
           clear l4 l5 l6 l7 l8 l9 x0' x1' x2' y0' y1' y2' CV2
           have HPN := hid (show (((rs.drop (i + 1)).drop (k' + 1)).map (fun q => ((((rid, Value.slice (some ⟨xb, xoff, none⟩) rvs.length ucap, rvs) : Row3)), q)) ++ prsT (rs.drop (i + 1))).find? P = Q by
            have h := HP5.out
            rw [List.map_cons, List.cons_append, List.find?_cons, WPX.out] at h
            exact h)
           have BZ := hid (NA3.out.trans (Z5.out.mono NA3.out.size))
           go_wp2_with fail
           go_roundw
           case rel => exact ⟨k' + 1, by have := HK2.out; omega, by go_num, HPN, BZ.out⟩
           case measure => have := HK2.out; simp [intOf]; omega
        ·have cz : (cv != 0) = true := by unfold bne; rw [beq_eq_false_iff_ne.2 hcv]; rfl
         have cz2 : (cv == 0) = false := beq_eq_false_iff_ne.2 hcv
         rw [cz2, Bool.false_and] at WPX
         clear hcv
         have HPN := hid (show (((rs.drop (i + 1)).drop (k' + 1)).map (fun q => ((((rid, Value.slice (some ⟨xb, xoff, none⟩) rvs.length ucap, rvs) : Row3)), q)) ++ prsT (rs.drop (i + 1))).find? P = Q by
          have h := HP5.out
          rw [List.map_cons, List.cons_append, List.find?_cons, WPX.out] at h
          exact h)
         have BZ := hid (NA3.out.trans (Z5.out.mono NA3.out.size))
         go_wp2_with fail
         go_roundw
         case rel => exact ⟨k' + 1, by have := HK2.out; omega, by go_num, HPN, BZ.out⟩
         case measure => have := HK2.out; simp [intOf]; omega
       ·have hke : N <= k' := by omega
        have HPN := hid (show (prsT (rs.drop (i + 1))).find? P = Q by
         have h := HP4.out
         rw [List.drop_eq_nil_of_le (show (rs.drop (i + 1)).length <= k' by rw [List.length_drop]; have := HN.out; omega)] at h
         simpa using h)
        have NW := hid NXC.out
        clear hnx2 HP4 hke
        go_wp2_with fail
        go_roundw
        case rel => exact ⟨i + 1, by have := HLT.out; omega, by go_num, HPN, NW.out⟩
        case measure => have := HLT.out; simp [intOf]; omega
    ·have QV := hid (show Q.isNone = true by
      have h := HP.out
      rw [List.drop_eq_nil_of_le (show rs.length <= i by omega), PN.out] at h
      rw [<- h]; rfl)
     have BF := hid (B0.out.trans (N0.out.mono hsz0))
     clear HP hnx
     go_wp2_with fail
     go_ret2
     exact ⟨by rw [QV.out]; rfl, BF.out⟩

end Go.Proofs.YtalejolehccclaaGreatDoor

/- The walks of odmine's miner: holds, least. -/
namespace Go.Proofs.YtalejolehccclaaGreatDoor
open Go.RowKit
set_option linter.unusedVariables false

def SATm (m : Nat) (rs : List Row3) (c : C3S) : Bool := satC m rs c.1 c.2.1.toNat c.2.2
def okC (m : Nat) (c : C3S) : Prop := sub c.1 (fullN m) /\ 0 <= c.2.1 /\ c.2.1 < (m : Int) /\ -1 <= c.2.2 /\ c.2.2 < (m : Int)
def minV (nm : ByteArray) (av rv : Value) (b : Nat) : Value := .agg #[.string nm, av, rv, .map (some b)]

theorem cells4 {w : World} {a b c d : Value} {t : TypeId} (W : World) (h : Below (w.alloc (.cells #[a, b, c, d] t)).heap.size (w.alloc (.cells #[a, b, c, d] t)) W) :
  W.cell? ⟨w.heap.size, 0, none⟩ = some a /\ W.cell? ⟨w.heap.size, 1, none⟩ = some b /\ W.cell? ⟨w.heap.size, 2, none⟩ = some c /\ W.cell? ⟨w.heap.size, 3, none⟩ = some d :=
 ⟨(h.cell (p := ⟨w.heap.size, 0, none⟩) (by simp)).trans (by simp), (h.cell (p := ⟨w.heap.size, 1, none⟩) (by simp)).trans (by simp), (h.cell (p := ⟨w.heap.size, 2, none⟩) (by simp)).trans (by simp), (h.cell (p := ⟨w.heap.size, 3, none⟩) (by simp)).trans (by simp)⟩
theorem grow_below {w w' : World} (row : Option Nat) (hb : Below w.heap.size w w') : w.grownBy w' row := ⟨hb.os, hb.tape, hb.output, hb.size, fun k hk _ => hb.block k hk⟩
theorem grow_trans {w a b : World} {row : Option Nat} (h : w.grownBy a row) (k : a.grownBy b row) : w.grownBy b row :=
 ⟨k.os.trans h.os, k.tape.trans h.tape, k.output.trans h.output, Nat.le_trans h.size k.size, fun j hj hne => (k.block j (Nat.lt_of_lt_of_le hj h.size) hne).trans (h.block j hj hne)⟩
set_option maxHeartbeats 1600000 in
set_option maxRecDepth 100000 in
theorem holds_any (t : T3) (av rv : Value) (c : C3S) (b N : Nat) (w0 w : World) (ht : RdT w0 av rv t) (hk : tabE2 t = 0) (hb : Below w0.heap.size w0 w) (hbb : w0.heap.size <= b) (hm : Memo (SATm t.2.1.length t.2.2) b N w) (hN : N < 1000000000) (hc : okC t.2.1.length c) :
  Calls Tryz.prog 152 #[minV t.1 av rv b, vC3 c] w fun e w' => e = .returned (.bool (SATm t.2.1.length t.2.2 c)) /\ Memo (SATm t.2.1.length t.2.2) b (N + 1) w' /\ w.grownBy w' (some b) := by
 have SA := hid (fun (W : World) (h : Below w0.heap.size w0 W) => osat_any t av rv c.1 c.2.1.toNat c.2.2 W (ht.below h) hk (by have := hc.2.1; have := hc.2.2.1; omega) hc.2.2.2.1 hc.2.2.2.2 hc.1)
 rw [show ((c.2.1.toNat : Nat) : Int) = c.2.1 by have := hc.2.1; omega] at SA
 obtain ⟨h16, -, -⟩ := tabE2_ok hk
 have hin : inI c.2.1 /\ inI c.2.2 := by unfold inI; have := hc.2.1; have := hc.2.2.1; have := hc.2.2.2.1; have := hc.2.2.2.2; omega
 obtain ⟨ao, acap, hva, -⟩ := ht.1.split
 obtain ⟨ro, rcap, hvr, -⟩ := RdR.split ht.2
 obtain ⟨nm, ats, rs⟩ := t
 simp only at hva hvr
 subst hva hvr
 have SE := hid (show SATm ats.length rs c = satC ats.length rs c.1 c.2.1.toNat c.2.2 from rfl)
 replace SA := hid (fun (W : World) (h : Below w0.heap.size w0 W) => show Calls Tryz.prog 194 #[.agg #[.string nm, .slice ao ats.length acap, .slice ro rs.length rcap], .agg #[.int .u32 (iv c.1), .int .i64 c.2.1, .int .i64 c.2.2]] W fun e w' => e = .returned (.tuple #[.bool (SATm ats.length rs c), .int .i64 0]) /\ Below W.heap.size W w' from SA.out W h)
 show Calls _ _ _ _ fun e w' => e = .returned (.bool (SATm ats.length rs c)) /\ Memo (SATm ats.length rs) b (N + 1) w' /\ w.grownBy w' (some b)
 obtain ⟨SM, hSM⟩ : ∃ SM, SATm ats.length rs = SM := ⟨_, rfl⟩
 replace hm : Memo (SATm ats.length rs) b N w := hm
 rw [hSM] at hm SA ⊢
 obtain ⟨n, f, p, h1, h2, h3⟩ := hm
 have hb1 := below_alloc w (.cells #[.string nm, .slice ao ats.length acap, .slice ro rs.length rcap, .map (some b)] 167)
 have hb2 := below_alloc (w.alloc (.cells #[.string nm, .slice ao ats.length acap, .slice ro rs.length rcap, .map (some b)] 167)) (.cells #[.int .u32 (iv c.1), .int .i64 c.2.1, .int .i64 c.2.2] 78)
 have hsz1 : (w.alloc (.cells #[.string nm, .slice ao ats.length acap, .slice ro rs.length rcap, .map (some b)] 167)).heap.size = w.heap.size + 1 := by simp
 obtain ⟨wm, hwm⟩ : ∃ wm : World, w.alloc (.cells #[.string nm, .slice ao ats.length acap, .slice ro rs.length rcap, .map (some b)] 167) = wm := ⟨_, rfl⟩
 have M4 := hid (fun (W : World) (h : Below wm.heap.size wm W) => cells4 (w := w) (a := .string nm) (b := .slice ao ats.length acap) (c := .slice ro rs.length rcap) (d := .map (some b)) (t := 167) W (by rw [hwm]; exact h))
 have hwm' := hwm
 rw [hwm] at hb1 hb2 hsz1
 obtain ⟨w1, hw1⟩ : ∃ w1 : World, wm.alloc (.cells #[.int .u32 (iv c.1), .int .i64 c.2.1, .int .i64 c.2.2] 78) = w1 := ⟨_, rfl⟩
 have C3 := hid (fun (W : World) (h : Below w1.heap.size w1 W) => show W.cell? ⟨w.heap.size + 1, 0, none⟩ = some (.int .u32 (iv c.1)) /\ W.cell? ⟨w.heap.size + 1, 1, none⟩ = some (.int .i64 c.2.1) /\ W.cell? ⟨w.heap.size + 1, 2, none⟩ = some (.int .i64 c.2.2) from by have := cells3 (w := wm) (a := .int .u32 (iv c.1)) (b := .int .i64 c.2.1) (c := .int .i64 c.2.2) (t := 78) W (by rw [hw1]; exact h); rwa [hsz1] at this)
 rw [hw1] at hb2
 have B1 := hid (hb1.trans (hb2.mono hb1.size))
 have WW := hid (show (w.alloc (.cells #[.string nm, .slice ao ats.length acap, .slice ro rs.length rcap, .map (some b)] 167)).alloc (.cells #[.int .u32 (iv c.1), .int .i64 c.2.1, .int .i64 c.2.2] 78) = w1 by rw [hwm, hw1])
 have O1 := hid (h1.below B1.out)
 have HB := hid hb
 have KK := hid (show ∃ ck : CK, ck.1 = c from ⟨⟨c, hin⟩, rfl⟩)
 obtain ⟨ck, hck⟩ := KK.out
 have VK := hid (show vC3 c = canKeys.val ck by rw [<- hck]; rfl)
 have HF := hid (fun (h : p ck = true) => show f ck = .bool (SM c) by rw [h3 ck h, hck])
 obtain ⟨x0, x1, x2, x3⟩ := M4.out w1 hb2
 obtain ⟨y0, y1, y2⟩ := C3.out w1 (Below.refl _ _)
 have HH := hid hb2
 have H3 := hid h3
 have H2 := hid h2
 have HNN := hid hN
 unfold minV vC3
 unfold vC3 at VK
 clear ht hk hb hN hc hin h1 h2 h3 hb1 hb2 hwm hwm' hw1 hSM h16 SE
 rw [<- WW.out] at x0 x1 x2 x3 y0 y1 y2
 rw [<- WW.out] at O1
 cases hp : p ck with
 | true =>
  have HFE := hid (HF.out hp)
  have HPE := hid hp
  clear hp
  go_enter Tryz.func152, Tryz.ntmps152
  go_wp2_with (at_lookup; refine wpList_glook_ok (E := canKeys) (z := .bool false) (f := f) (p := p) (n := n) (b := b) (e := 4) rfl _ _ 165 rfl undMapCK (zeroBk _) rfl O1.out ck VK.out ?_; rw [HFE.out, HPE.out])
  go_ret
  rw [WW.out] at O1 ⊢
  exact ⟨rfl, ⟨n, f, p, O1.out, by have := H2.out; omega, H3.out⟩, grow_below _ B1.out⟩
 | false =>
  have HPE := hid hp
  clear hp
  obtain ⟨fv, hfv⟩ : ∃ fv, f ck = fv := ⟨_, rfl⟩
  have HFV := hid hfv
  clear hfv
  have CS := hid (SA.out w1 (HB.out.trans (B1.out.mono HB.out.size)))
  go_enter Tryz.func152, Tryz.ntmps152
  go_wp2_with (at_lookup; refine wpList_glook_ok (E := canKeys) (z := .bool false) (f := f) (p := p) (n := n) (b := b) (e := 4) rfl _ _ 165 rfl undMapCK (zeroBk _) rfl O1.out ck VK.out ?_; rw [HFV.out, HPE.out])
  rw [WW.out]
  rw [WW.out] at O1
  clear x0 x1 x2 x3 y0 y1 y2
  refine CS.out.mono ?_
  rintro e w2 ⟨rfl, hb2'⟩
  have O2 := hid (O1.out.below hb2')
  have B2 := hid (B1.out.trans (hb2'.mono B1.out.size))
  obtain ⟨x0, x1, x2, x3⟩ := M4.out w2 (HH.out.trans (hb2'.mono HH.out.size))
  obtain ⟨y0, y1, y2⟩ := C3.out w2 hb2'
  clear hb2'
  go_wp2_with (at_mapUpdate; refine wpList_gput (E := canKeys) (e := 4) rfl _ _ _ 165 rfl undMapCK rfl O2.out (by have := H2.out; have := HNN.out; unfold maxLen; omega) ck (.bool (SM c)) VK.out rfl ?_)
  intro w3 ho3 hg3
  have O3 := hid ho3
  have G3 := hid (grow_trans (grow_below (some b) B2.out) hg3)
  clear ho3 hg3
  go_wp2_with fail
  go_ret
  refine ⟨rfl, ⟨n + 1, _, _, O3.out, by have := H2.out; omega, fun c' hc' => ?_⟩, G3.out⟩
  unfold updG at hc' ⊢
  by_cases he : c' = ck
  ·rw [if_pos he, he, hck]
  ·rw [if_neg he] at hc' ⊢
   exact H3.out c' hc'

end Go.Proofs.YtalejolehccclaaGreatDoor

/- The walk of odmine's least. -/
namespace Go.Proofs.YtalejolehccclaaGreatDoor
open Go.RowKit
set_option linter.unusedVariables false

def lesB (SM : C3S -> Bool) (c : C3S) : Bool := SM c && !leavesB (fun X => SM (X, c.2.1, c.2.2)) c.1 32
structure Mine (SM : C3S -> Bool) (B b N : Nat) (w w' : World) : Prop where
 memo : Memo SM b N w'
 grown : w.grownBy w' (some b)
theorem Mine.below {SM : C3S -> Bool} {B b N : Nat} {w a w' : World} (h : Mine SM B b N w a) (hb : Below a.heap.size a w') : Mine SM B b N w w' := ⟨h.memo.below hb, grow_trans h.grown (grow_below _ hb)⟩
theorem Mine.cell {SM : C3S -> Bool} {B b N : Nat} {w w' : World} (h : Mine SM B b N w w') {p : Addr} {v : Value} (hp : p.block < w.heap.size) (hne : p.block ≠ b) (hc : w.cell? p = some v) : w'.cell? p = some v :=
 (h.grown.cell_far p hp (fun e => hne (Option.some.inj e))).trans hc
theorem grow_kept {B b : Nat} {w w' : World} (h : w.grownBy w' (some b)) (hB : B <= b) (hs : B <= w.heap.size) : Below B w w' := ⟨h.os, h.tape, h.output, h.size, fun k hk => h.block k (by omega) (fun e => by cases e; omega)⟩

set_option maxHeartbeats 1600000 in
set_option maxRecDepth 100000 in
theorem least_any (SM : C3S -> Bool) (m : Nat) (nm : ByteArray) (av rv : Value) (c : C3S) (b N : Nat) (w0 w : World) (hb : Below w0.heap.size w0 w) (hbb : w0.heap.size <= b) (hfa : ∃ ao n cap, av = .slice ao n cap) (hfr : ∃ ao n cap, rv = .slice ao n cap)
  (HO : ∀ (c : C3S) (N : Nat) (W : World), Below w0.heap.size w0 W -> Memo SM b N W -> N < 1000000000 -> okC m c -> Calls Tryz.prog 152 #[minV nm av rv b, vC3 c] W fun e w' => e = .returned (.bool (SM c)) /\ Memo SM b (N + 1) w' /\ W.grownBy w' (some b))
  (hm : Memo SM b N w) (hN : N < 900000000) (hc : okC m c) :
  Calls Tryz.prog 151 #[minV nm av rv b, vC3 c] w fun e w' => e = .returned (.bool (lesB SM c)) /\ Memo SM b (N + 40) w' /\ w.grownBy w' (some b) := by
 have hblt := hm.lt
 have HOX := hid HO
 unfold minV vC3 at HOX ⊢
 have hb1 := below_alloc w (.cells #[.string nm, av, rv, .map (some b)] 167)
 have hb2 := below_alloc (w.alloc (.cells #[.string nm, av, rv, .map (some b)] 167)) (.cells #[.int .u32 (iv c.1), .int .i64 c.2.1, .int .i64 c.2.2] 78)
 have hsz1 : (w.alloc (.cells #[.string nm, av, rv, .map (some b)] 167)).heap.size = w.heap.size + 1 := by simp
 obtain ⟨wm, hwm⟩ : ∃ wm : World, w.alloc (.cells #[.string nm, av, rv, .map (some b)] 167) = wm := ⟨_, rfl⟩
 have M4 := hid (fun (W : World) (h : Below wm.heap.size wm W) => cells4 (w := w) (a := .string nm) (b := av) (c := rv) (d := .map (some b)) (t := 167) W (by rw [hwm]; exact h))
 have hwm' := hwm
 rw [hwm] at hb1 hb2 hsz1
 obtain ⟨w1, hw1⟩ : ∃ w1 : World, wm.alloc (.cells #[.int .u32 (iv c.1), .int .i64 c.2.1, .int .i64 c.2.2] 78) = w1 := ⟨_, rfl⟩
 have C3 := hid (fun (W : World) (h : Below w1.heap.size w1 W) => show W.cell? ⟨w.heap.size + 1, 0, none⟩ = some (.int .u32 (iv c.1)) /\ W.cell? ⟨w.heap.size + 1, 1, none⟩ = some (.int .i64 c.2.1) /\ W.cell? ⟨w.heap.size + 1, 2, none⟩ = some (.int .i64 c.2.2) from by have := cells3 (w := wm) (a := .int .u32 (iv c.1)) (b := .int .i64 c.2.1) (c := .int .i64 c.2.2) (t := 78) W (by rw [hw1]; exact h); rwa [hsz1] at this)
 rw [hw1] at hb2
 have B1 := hid (hb1.trans (hb2.mono hb1.size))
 have WW := hid (show (w.alloc (.cells #[.string nm, av, rv, .map (some b)] 167)).alloc (.cells #[.int .u32 (iv c.1), .int .i64 c.2.1, .int .i64 c.2.2] 78) = w1 by rw [hwm, hw1])
 have HH := hid hb2
 clear hb1 hb2 hwm hwm' hw1
 obtain ⟨ao, an, acap, rfl⟩ := hfa
 obtain ⟨ro, rn, rcap, rfl⟩ := hfr
 have M1 := hid (hm.below B1.out)
 have W1 := hid (hb.trans (B1.out.mono hb.size))
 have HC := hid hc
 have HBB := hid hbb
 have HNN := hid hN
 have HBL := hid hblt
 have SZ := hid B1.out.size
 have hs01 := W1.out.size
 obtain ⟨x0, x1, x2, x3⟩ := M4.out w1 HH.out
 obtain ⟨y0, y1, y2⟩ := C3.out w1 (Below.refl _ _)
 have CX := hid (fun (W : World) (h : w1.grownBy W (some b)) => show (W.cell? ⟨w.heap.size, 0, none⟩ = some (.string nm) /\ W.cell? ⟨w.heap.size, 1, none⟩ = some (.slice ao an acap) /\ W.cell? ⟨w.heap.size, 2, none⟩ = some (.slice ro rn rcap) /\ W.cell? ⟨w.heap.size, 3, none⟩ = some (.map (some b))) /\ (W.cell? ⟨w.heap.size + 1, 0, none⟩ = some (.int .u32 (iv c.1)) /\ W.cell? ⟨w.heap.size + 1, 1, none⟩ = some (.int .i64 c.2.1) /\ W.cell? ⟨w.heap.size + 1, 2, none⟩ = some (.int .i64 c.2.2)) from by
  have f : ∀ (p : Addr) (v : Value), p.block ≠ b -> w1.cell? p = some v -> W.cell? p = some v := fun p v hne hv => (h.cell_far p (World.block_lt_of_cell? _ _ hv) (fun e => hne (Option.some.inj e))).trans hv
  have hb' := HBL.out
  exact ⟨⟨f _ _ (by show w.heap.size ≠ b; omega) x0, f _ _ (by show w.heap.size ≠ b; omega) x1, f _ _ (by show w.heap.size ≠ b; omega) x2, f _ _ (by show w.heap.size ≠ b; omega) x3⟩, f _ _ (by show w.heap.size + 1 ≠ b; omega) y0, f _ _ (by show w.heap.size + 1 ≠ b; omega) y1, f _ _ (by show w.heap.size + 1 ≠ b; omega) y2⟩)
 rw [<- WW.out] at x0 x1 x2 x3 y0 y1 y2
 clear hb hbb hm hN hc hblt HO hsz1
 have LE := hid (show lesB SM c = (SM c && !leavesB (fun X => SM (X, c.2.1, c.2.2)) c.1 32) from rfl)
 rw [LE.out]
 clear LE
 obtain ⟨X, A, B⟩ := c
 simp only at HC x0 x1 x2 x3 y0 y1 y2 CX WW C3 ⊢
 cases hh : SM (X, A, B) with
 | false =>
  have H1 := hid (HOX.out (X, A, B) N w1 W1.out M1.out (by have := HNN.out; omega) HC.out)
  rw [hh] at H1
  have HH1 := hid hh
  clear hh
  go_enter Tryz.func151, Tryz.ntmps151
  go_wp2_with fail
  rw [WW.out]
  clear x0 x1 x2 x3 y0 y1 y2
  refine H1.out.mono ?_
  rintro e w2 ⟨rfl, hm2, hg2⟩
  have M2 := hid hm2
  have G2 := hid (grow_trans (grow_below (some b) B1.out) hg2)
  clear hm2 hg2 H1
  go_wp2_with fail
  go_ret
  exact ⟨rfl, M2.out.mono (by omega), G2.out⟩
 | true =>
  have H1 := hid (HOX.out (X, A, B) N w1 W1.out M1.out (by have := HNN.out; omega) HC.out)
  rw [hh] at H1
  have HH1 := hid hh
  clear hh
  go_enter Tryz.func151, Tryz.ntmps151
  go_wp2_with fail
  rw [WW.out]
  clear x0 x1 x2 x3 y0 y1 y2
  refine H1.out.mono ?_
  rintro e w2 ⟨rfl, hm2, hg2⟩
  have M2 := hid hm2
  have G2 := hid hg2
  clear hm2 hg2 H1
  obtain ⟨⟨x0, x1, x2, x3⟩, y0, y1, y2⟩ := CX.out w2 G2.out
  go_wp2_with fail
  clear x0 x1 x2 x3 y0 y1 y2
  go_loopw [5] (fun i wr => ∃ (r : S) (N' : Nat), i = .int .u32 (iv r) /\ Memo SM b N' wr /\ w1.grownBy wr (some b) /\ N' + pop r <= N + 1 + 32 /\ Hid (sub r X /\ ∀ i, i < 32 -> X.getLsbD i = true -> r.getLsbD i = false -> SM (X &&& ~~~ bit i, A, B) = false)) (fun i _ => (intOf i).toNat)
  case atStart => exact ⟨X, N + 1, rfl, M2.out, G2.out, by have := pop_le X; omega, hid ⟨sub_refl _, fun i _ h1 h2 => by rw [h1] at h2; cases h2⟩⟩
  case round =>
   obtain ⟨r, N', rfl, hm', hg', hNp, H⟩ := hrel
   have MM := hid hm'
   have GG := hid hg'
   have HNP := hid hNp
   clear hm' hg' hNp
   by_cases h0 : r = 0#32
   ·have hne : (r != 0#32) = false := by simp [h0]
    have R0 := hid h0
    clear h0
    go_wp2_with fail
    go_ret
    refine ⟨ret_bool ?_, MM.out.mono (by have := HNP.out; omega), grow_trans (grow_below (some b) B1.out) GG.out⟩
    rw [leavesB_none (fun i hi => ?_)]
    ·rfl
    ·cases hs : X.getLsbD i with
     | false => simp
     | true => simp [H.out.2 i hi hs (by rw [R0.out]; simp)]
   ·have hne : (r != 0#32) = true := by simp [h0]
    obtain ⟨i, hi, h1, h2, h3, h4⟩ := low_bit h0
    have hlt := drop_low_lt h0
    have h1s := H.out.1 i hi h1
    have hpop : pop (r &&& ~~~ bit i) < pop r := sub_pop_lt (less_subK r i) (less_ne hi h1)
    have H3 := hid h3; have H4 := hid h4; have H1 := hid h1; have H1s := hid h1s; have HL := hid hlt; have HPOP := hid hpop
    clear h2 h0 h3 h4 h1 h1s hlt hpop
    have OK2 := hid (show okC m (X &&& ~~~ bit i, A, B) from ⟨sub_trans (less_subK X i) HC.out.1, HC.out.2⟩)
    have BW := hid (show Below w0.heap.size w0 wr from W1.out.trans (grow_kept GG.out HBB.out hs01))
    have HX := hid (HOX.out (X &&& ~~~ bit i, A, B) N' wr BW.out MM.out (by have := HNP.out; have := HNN.out; omega) OK2.out)
    obtain ⟨⟨x0, x1, x2, x3⟩, y0, y1, y2⟩ := CX.out wr GG.out
    cases hq : SM (X &&& ~~~ bit i, A, B) with
    | true =>
     rw [hq] at HX
     have HQ := hid hq
     clear hq
     go_wp2_with fail
     rw [H3.out]
     refine HX.out.mono ?_
     rintro e w5 ⟨rfl, hm5, hg5⟩
     have M5 := hid hm5
     have G5 := hid (grow_trans (grow_below (some b) B1.out) (grow_trans GG.out hg5))
     clear hm5 hg5 x0 x1 x2 x3 y0 y1 y2
     go_wp2_with fail
     go_ret
     refine ⟨ret_bool ?_, M5.out.mono (by have := HNP.out; omega), G5.out⟩
     rw [leavesB_hit hi (by rw [H1s.out, HQ.out]; rfl)]; simp
    | false =>
     rw [hq] at HX
     have HQ := hid hq
     clear hq
     go_wp2_with fail
     rw [H3.out]
     refine HX.out.mono ?_
     rintro e w5 ⟨rfl, hm5, hg5⟩
     have M5 := hid hm5
     have G5 := hid (grow_trans GG.out hg5)
     clear hm5 hg5 x0 x1 x2 x3 y0 y1 y2
     go_wp2_with fail
     go_roundw
     case rel =>
      refine ⟨r &&& (r - 1#32), N' + 1, rfl, M5.out, G5.out, by rw [H4.out]; have := HNP.out; have := HPOP.out; omega, hid ⟨?_, fun j hj hs hr => ?_⟩⟩
      ·rw [H4.out]
       intro j hj hr
       rw [BitVec.getLsbD_and] at hr
       simp at hr
       exact H.out.1 j hj hr.1
      ·rw [H4.out, BitVec.getLsbD_and, BitVec.getLsbD_not, bit_get i j hj] at hr
       by_cases e : j = i
       ·subst e; exact HQ.out
       ·refine H.out.2 j hj hs ?_
        simpa [hj, e] using hr
     case measure => have := HL.out; simp only [intOf, iv]; omega

end Go.Proofs.YtalejolehccclaaGreatDoor

/- The walk of odmine's constants. -/
namespace Go.Proofs.YtalejolehccclaaGreatDoor
open Go.RowKit
set_option linter.unusedVariables false

def cC3 (c : C3S) : List Value := [.int .u32 (iv c.1), .int .i64 c.2.1, .int .i64 c.2.2]
theorem cC3_length (c : C3S) : (cC3 c).length = 3 := rfl
theorem cC3_one : ∀ y, ∀ u ∈ cC3 y, u.oneCell' = true := by intro y u hu; simp [cC3] at hu; rcases hu with rfl | rfl | rfl <;> rfl
theorem cells_newC3 (w : World) (x : C3S) {t : TypeId} : ∀ j u, (cC3 x)[j]? = some u -> (w.alloc (.cells #[.int .u32 (iv x.1), .int .i64 x.2.1, .int .i64 x.2.2] t)).cell? (Addr.add ⟨w.heap.size, 0, none⟩ j) = some u := by
 intro j u hj
 have hj2 : j < 3 := (List.getElem?_eq_some_iff.1 hj).1
 rcases (show j = 0 ∨ j = 1 ∨ j = 2 by omega) with rfl | rfl | rfl <;> (simp [cC3] at hj; subst hj; simp [Addr.add])
theorem infoCan : (Tryz.prog.info? 78).map (fun i => (i.zero, i.size, i.bytes)) = some (some (.agg #[.int .u32 0, .int .i64 0, .int .i64 0]), 3, 24) := by kernel_rfl
theorem undCans : Tryz.prog.underlying 70 = some (.slice 78) := by kernel_rfl
theorem own_kept {w w' : World} {B n : Nat} {e : TypeId} {size : Nat} {v : Value} {xs : List Value} {row : Option Nat} (h : w.ownsRow B e size v n xs) (hg : w.grownBy w' row) (hne : ∀ j, row = some j -> j < B) : w'.ownsRow B e size v n xs := by
 refine ⟨h.1, ?_⟩
 rcases h.2 with h' | ⟨g, cap, cur, hv, hgB, hc, rest⟩
 ·exact .inl h'
 ·refine .inr ⟨g, cap, cur, hv, hgB, (hg.block g (Array.getElem?_eq_some_iff.1 hc).1 ?_).trans hc, rest⟩
  intro e
  have := hne g e.symm
  omega
theorem grow_push {w1 wr w6 : World} {b : Nat} {o : Obj} {row : Option Nat} (h : w1.grownBy wr (some b)) (hg : (wr.alloc o).grownBy w6 row) (hr : ∀ j, row = some j -> w1.heap.size <= j) : w1.grownBy w6 (some b) :=
 ⟨hg.os.trans h.os, hg.tape.trans h.tape, hg.output.trans h.output, Nat.le_trans h.size (Nat.le_trans (by simp) hg.size), fun k hk hne =>
  (hg.block k (by have := h.size; simp; omega) (fun e => by have := hr k e.symm; omega)).trans (((below_alloc wr o).block k (by have := h.size; omega)).trans (h.block k hk hne))⟩

def conB (SM : C3S -> Bool) (X : S) (a : Nat) : Bool := !X.getLsbD a && lesB SM (X, (a : Int), -1)
def conL (SM : C3S -> Bool) (X : S) (m : Nat) : List C3S := ((List.range m).filter (conB SM X)).map fun a : Nat => ((X, (a : Int), (-1 : Int)) : C3S)
theorem conL_next (SM : C3S -> Bool) (X : S) (k : Nat) : conL SM X (k + 1) = conL SM X k ++ if conB SM X k = true then [(X, (k : Int), -1)] else [] := by
 unfold conL
 rw [List.range_succ, List.filter_append, List.map_append, List.filter_cons, List.filter_nil]
 split <;> rfl
theorem conL_len (SM : C3S -> Bool) (X : S) (m : Nat) : (conL SM X m).length <= m := by
 unfold conL; rw [List.length_map]; exact Nat.le_trans (List.length_filter_le _ _) (by simp)

set_option maxHeartbeats 1600000 in
set_option maxRecDepth 100000 in
theorem consts_any (SM : C3S -> Bool) (m : Nat) (nm : ByteArray) (ao ro : Option Addr) (acap rn rcap : Nat) (X : S) (b N : Nat) (w0 w : World) (hb : Below w0.heap.size w0 w) (hbb : w0.heap.size <= b)
  (HO : ∀ (c : C3S) (N : Nat) (W : World), Below w0.heap.size w0 W -> Memo SM b N W -> N < 900000000 -> okC m c -> Calls Tryz.prog 151 #[minV nm (.slice ao m acap) (.slice ro rn rcap) b, vC3 c] W fun e w' => e = .returned (.bool (lesB SM c)) /\ Memo SM b (N + 40) w' /\ W.grownBy w' (some b))
  (hm : Memo SM b N w) (hN : N < 800000000) (h16 : m <= 16) (hX : sub X (fullN m)) :
  Calls Tryz.prog 111 #[minV nm (.slice ao m acap) (.slice ro rn rcap) b, .int .u32 (iv X)] w fun e w' => ∃ v', e = .returned v' /\ w'.ownsRow w.heap.size 78 3 v' (conL SM X m).length ((conL SM X m).flatMap cC3) /\ Memo SM b (N + 640) w' /\ w.grownBy w' (some b) := by
 have hblt := hm.lt
 have HOX := hid HO
 unfold minV vC3 at HOX
 unfold minV
 have hb1 := below_alloc w (.cells #[.string nm, .slice ao m acap, .slice ro rn rcap, .map (some b)] 167)
 have hs1 : (w.alloc (.cells #[.string nm, .slice ao m acap, .slice ro rn rcap, .map (some b)] 167)).heap.size = w.heap.size + 1 := by simp
 have M4 := hid (fun (W : World) h => cells4 (w := w) (a := .string nm) (b := .slice ao m acap) (c := .slice ro rn rcap) (d := .map (some b)) (t := 167) W h)
 obtain ⟨w1, hw1⟩ : ∃ w1 : World, w.alloc (.cells #[.string nm, .slice ao m acap, .slice ro rn rcap, .map (some b)] 167) = w1 := ⟨_, rfl⟩
 rw [hw1] at hb1 M4 hs1
 have WW := hid hw1
 have B1 := hid hb1
 have M1 := hid (hm.below hb1)
 have W1 := hid (hb.trans (hb1.mono hb.size))
 have HBB := hid hbb
 have HBL := hid hblt
 have HNN := hid hN
 have HXF := hid hX
 have H16 := hid h16
 have HS1 := hid hs1
 have hs01 := W1.out.size
 obtain ⟨x0, x1, x2, x3⟩ := M4.out w1 (Below.refl _ _)
 have CX := hid (fun (W : World) (h : w1.grownBy W (some b)) => show W.cell? ⟨w.heap.size, 0, none⟩ = some (.string nm) /\ W.cell? ⟨w.heap.size, 1, none⟩ = some (.slice ao m acap) /\ W.cell? ⟨w.heap.size, 2, none⟩ = some (.slice ro rn rcap) /\ W.cell? ⟨w.heap.size, 3, none⟩ = some (.map (some b)) from by
  have f : ∀ (p : Addr) (v : Value), p.block ≠ b -> w1.cell? p = some v -> W.cell? p = some v := fun p v hne hv => (h.cell_far p (World.block_lt_of_cell? _ _ hv) (fun e => hne (Option.some.inj e))).trans hv
  have hb' := HBL.out
  exact ⟨f _ _ (by show w.heap.size ≠ b; omega) x0, f _ _ (by show w.heap.size ≠ b; omega) x1, f _ _ (by show w.heap.size ≠ b; omega) x2, f _ _ (by show w.heap.size ≠ b; omega) x3⟩)
 have CN := hid (fun k => conL_next SM X k)
 have CL := hid (fun k => conL_len SM X k)
 have CB := hid (fun a => show conB SM X a = (!X.getLsbD a && lesB SM (X, (a : Int), -1)) from rfl)
 have m0 : (0 : Int) <= (m : Int) := by omega
 have m16 : (m : Int) <= 16 := by omega
 clear hb hbb hm hN hblt HO hX h16 hb1 hw1 hs1
 go_enter Tryz.func111, Tryz.ntmps111
 go_wp2_with fail
 rw [WW.out]
 go_wp2_with fail
 clear x0 x1 x2 x3
 go_loopw [5, 12] (fun u idx wr => ∃ k : Nat, k <= m /\ idx = .int .i64 k /\ wr.ownsRow w1.heap.size 78 3 u (conL SM X k).length ((conL SM X k).flatMap cC3) /\ Memo SM b (N + 40 * k) wr /\ w1.grownBy wr (some b)) (fun _ idx _ => m - (intOf idx).toNat)
 case atStart => exact ⟨0, Nat.zero_le _, rfl, World.ownsRow_nil _ _ _ _, M1.out.mono (by omega), World.grownBy.refl _ _⟩
 case round =>
  obtain ⟨k, hk, rfl, hown, hmm, hgg⟩ := hrel
  have hsz := hgg.size
  have k0 : (0 : Int) <= (k : Int) := by omega
  by_cases hlt : k < m
  ·have HO1 := hid hown
   have MM := hid hmm
   have GG := hid hgg
   have HLT := hid hlt
   have CNk := hid (CN.out k)
   have CLk := hid (CL.out k)
   have CBk := hid (CB.out k)
   obtain ⟨cs, hcs⟩ : ∃ cs, conL SM X k = cs := ⟨_, rfl⟩
   rw [hcs] at HO1 CNk CLk
   obtain ⟨x0, x1, x2, x3⟩ := CX.out wr hgg
   have hb2 := below_alloc wr (.cells #[.int .u32 (iv X), .int .i64 (k : Int), .int .i64 (-1)] 78)
   have C3 := hid (fun (W : World) h => cells3 (w := wr) (a := .int .u32 (iv X)) (b := .int .i64 (k : Int)) (c := .int .i64 (-1)) (t := 78) W h)
   obtain ⟨y0, y1, y2⟩ := C3.out _ (Below.refl _ _)
   obtain ⟨z0, z1, z2, z3⟩ := CX.out _ (grow_trans hgg (grow_below (some b) hb2))
   clear hcs hown hmm hgg hlt
   have BZ := bit_zeroN X k
   cases hbit : X.getLsbD k with
   | true =>
    rw [hbit, Bool.not_true] at BZ
    rw [hbit, Bool.not_true, Bool.false_and] at CBk
    have CNf := hid (show conL SM X (k + 1) = cs by rw [CNk.out, if_neg (by rw [CBk.out]; simp), List.append_nil])
    have HO2 := hid (own_below HO1.out hb2)
    have M2 := hid (MM.out.below hb2)
    have G2 := hid (grow_trans GG.out (grow_below (some b) hb2))
    clear hb2
    go_wp2_with fail
    go_roundw
    case rel => exact ⟨k + 1, by have := HLT.out; omega, by go_num, by rw [CNf.out]; exact HO2.out, M2.out.mono (by omega), G2.out⟩
    case measure => have := HLT.out; simp [intOf]; omega
   | false =>
    rw [hbit, Bool.not_false] at BZ
    rw [hbit, Bool.not_false, Bool.true_and] at CBk
    obtain ⟨w2, hw2⟩ : ∃ w2 : World, wr.alloc (.cells #[.int .u32 (iv X), .int .i64 (k : Int), .int .i64 (-1)] 78) = w2 := ⟨_, rfl⟩
    have W2 := hid hw2
    have B2 := hid (show Below wr.heap.size wr w2 by rw [<- hw2]; exact hb2)
    have C3' := hid (show ∀ W : World, Below w2.heap.size w2 W -> _ from by rw [<- hw2]; exact C3.out)
    have HO2 := hid (own_below HO1.out B2.out)
    have M2 := hid (MM.out.below B2.out)
    have G2 := hid (grow_trans GG.out (grow_below (some b) B2.out))
    have HS2 := hid (show w2.heap.size = wr.heap.size + 1 by rw [<- hw2]; simp)
    have OK2 := hid (show okC m (X, (k : Int), -1) from ⟨HXF.out, k0, by have := HLT.out; show (k : Int) < (m : Int); omega, by show (-1 : Int) <= -1; omega, by show (-1 : Int) < (m : Int); omega⟩)
    have LX := hid (HOX.out (X, (k : Int), -1) (N + 40 * k) w2 (W1.out.trans (grow_kept G2.out HBB.out hs01)) M2.out (by have := HNN.out; have := H16.out; have := HLT.out; omega) OK2.out)
    simp only at LX
    clear hw2 hb2
    cases hq : lesB SM (X, (k : Int), -1) with
    | true =>
     rw [hq] at LX CBk
     have CNf := hid (show conL SM X (k + 1) = cs ++ [(X, (k : Int), -1)] by rw [CNk.out, if_pos CBk.out])
     go_wp2_with fail
     rw [W2.out]
     clear x0 x1 x2 x3 y0 y1 y2 z0 z1 z2 z3
     refine LX.out.mono ?_
     rintro e w5 ⟨rfl, hm5, hg5⟩
     have M5 := hid hm5
     have G5 := hid (grow_trans G2.out hg5)
     have O5 := hid (own_kept HO2.out hg5 (fun j hj => by cases hj; have := HBL.out; have := HS1.out; omega))
     have f : ∀ (p : Addr) (v : Value), p.block ≠ b -> w2.cell? p = some v -> w5.cell? p = some v := fun p v hne hv => (hg5.cell_far p (World.block_lt_of_cell? _ _ hv) (fun e => hne (Option.some.inj e))).trans hv
     obtain ⟨y0, y1, y2⟩ := C3'.out w2 (Below.refl _ _)
     have hbw : b < wr.heap.size := by have := HBL.out; have := HS1.out; omega
     have y0' := f _ _ (by show wr.heap.size ≠ b; omega) y0
     have y1' := f _ _ (by show wr.heap.size ≠ b; omega) y1
     have y2' := f _ _ (by show wr.heap.size ≠ b; omega) y2
     have S5 := hid (show w1.heap.size <= w5.heap.size from G5.out.size)
     clear hm5 hg5 f y0 y1 y2 hq hbit
     go_wp2_with (at_builtin; refine wpList_pushC rfl _ _ 70 rfl w1.heap.size 78 (.agg #[.int .u32 0, .int .i64 0, .int .i64 0]) 3 24 undCans infoCan rfl (by decide) (by decide) cC3 cC3_length cC3_one _ cs rfl (O5.out.alloc _) ⟨w5.heap.size, 0, none⟩ ((X, (k : Int), -1) : C3S) rfl (cells_newC3 w5 ((X, (k : Int), -1) : C3S)) (by have := CLk.out; omega) (by have := S5.out; simp; omega) ?_)
     intro v6 w6 hown6 hg6
     have O6 := hid (show w6.ownsRow w1.heap.size 78 3 v6 (cs ++ [((X, (k : Int), -1) : C3S)]).length ((cs ++ [((X, (k : Int), -1) : C3S)]).flatMap cC3) by simpa using hown6)
     have G6 := hid (grow_push G5.out hg6 (fun j hj => (O5.out.lt j hj).1))
     have M6 := hid ((M5.out.below (below_alloc w5 _)).kept hg6 (fun e => by have := (O5.out.lt b e.symm).1; have := HBL.out; have := HS1.out; omega))
     clear hown6 hg6 y0' y1' y2'
     go_wp2_with fail
     go_roundw
     case rel => exact ⟨k + 1, by have := HLT.out; omega, by go_num, by rw [CNf.out]; exact O6.out, M6.out.mono (by omega), G6.out⟩
     case measure => have := HLT.out; simp [intOf]; omega
    | false =>
     rw [hq] at LX CBk
     have CNf := hid (show conL SM X (k + 1) = cs by rw [CNk.out, if_neg (by rw [CBk.out]; simp), List.append_nil])
     go_wp2_with fail
     rw [W2.out]
     clear x0 x1 x2 x3 y0 y1 y2 z0 z1 z2 z3
     refine LX.out.mono ?_
     rintro e w5 ⟨rfl, hm5, hg5⟩
     have M5 := hid hm5
     have G5 := hid (grow_trans G2.out hg5)
     have O5 := hid (own_kept HO2.out hg5 (fun j hj => by cases hj; have := HBL.out; have := HS1.out; omega))
     clear hm5 hg5 hq hbit
     go_wp2_with fail
     go_roundw
     case rel => exact ⟨k + 1, by have := HLT.out; omega, by go_num, by rw [CNf.out]; exact O5.out, M5.out.mono (by omega), G5.out⟩
     case measure => have := HLT.out; simp [intOf]; omega
  ·obtain rfl : k = m := by omega
   have O9 := hid (own_mono hown B1.out.size)
   have G9 := hid (grow_trans (grow_below (some b) B1.out) hgg)
   have M9 := hid (hmm.mono (show N + 40 * k <= N + 640 by have := H16.out; omega))
   clear hown hmm hgg
   go_wp2_with fail
   go_ret
   exact ⟨_, rfl, O9.out, M9.out, G9.out⟩

end Go.Proofs.YtalejolehccclaaGreatDoor

/- The walk of odmine's pairs. -/
namespace Go.Proofs.YtalejolehccclaaGreatDoor
open Go.RowKit
set_option linter.unusedVariables false

def pairOk (os : List C3S) (n : Nat) : Prop := (∀ c ∈ os, 0 <= c.2.2) /\ os.length <= n
theorem pairOk.nil (n : Nat) : pairOk [] n := ⟨(fun _ h => by cases h), Nat.zero_le _⟩
theorem pairOk.mono {os : List C3S} {n k : Nat} (h : pairOk os n) (hk : n <= k) : pairOk os k := ⟨h.1, Nat.le_trans h.2 hk⟩
theorem pairOk.push {os : List C3S} {n : Nat} (h : pairOk os n) {c : C3S} (hc : 0 <= c.2.2) : pairOk (os ++ [c]) (n + 1) := ⟨fun x hx => by
 rcases List.mem_append.1 hx with h1 | h1
 ·exact h.1 x h1
 ·rw [List.mem_singleton.1 h1]; exact hc, by rw [List.length_append, List.length_singleton]; have := h.2; omega⟩

set_option maxHeartbeats 3200000 in
set_option maxRecDepth 100000 in
theorem mpairs_any (SM : C3S -> Bool) (m : Nat) (nm : ByteArray) (ao ro : Option Addr) (acap rn rcap : Nat) (X : S) (b N : Nat) (w0 w : World) (hb : Below w0.heap.size w0 w) (hbb : w0.heap.size <= b)
  (HO : ∀ (c : C3S) (N : Nat) (W : World), Below w0.heap.size w0 W -> Memo SM b N W -> N < 900000000 -> okC m c -> Calls Tryz.prog 151 #[minV nm (.slice ao m acap) (.slice ro rn rcap) b, vC3 c] W fun e w' => e = .returned (.bool (lesB SM c)) /\ Memo SM b (N + 40) w' /\ W.grownBy w' (some b))
  (HH : ∀ (c : C3S) (N : Nat) (W : World), Below w0.heap.size w0 W -> Memo SM b N W -> N < 900000000 -> okC m c -> Calls Tryz.prog 152 #[minV nm (.slice ao m acap) (.slice ro rn rcap) b, vC3 c] W fun e w' => e = .returned (.bool (SM c)) /\ Memo SM b (N + 1) w' /\ W.grownBy w' (some b))
  (hm : Memo SM b N w) (hN : N < 800000000) (h16 : m <= 16) (hX : sub X (fullN m)) :
  Calls Tryz.prog 112 #[minV nm (.slice ao m acap) (.slice ro rn rcap) b, .int .u32 (iv X)] w fun e w' => ∃ (v' : Value) (os : List C3S), e = .returned v' /\ w'.ownsRow w.heap.size 78 3 v' os.length (os.flatMap cC3) /\ pairOk os 256 /\ Memo SM b (N + 11000) w' /\ w.grownBy w' (some b) := by
 have hblt := hm.lt
 have HOX := hid HO
 have HHX := hid HH
 unfold minV vC3 at HOX HHX
 unfold minV
 have hb1 := below_alloc w (.cells #[.string nm, .slice ao m acap, .slice ro rn rcap, .map (some b)] 167)
 have hs1 : (w.alloc (.cells #[.string nm, .slice ao m acap, .slice ro rn rcap, .map (some b)] 167)).heap.size = w.heap.size + 1 := by simp
 have M4 := hid (fun (W : World) h => cells4 (w := w) (a := .string nm) (b := .slice ao m acap) (c := .slice ro rn rcap) (d := .map (some b)) (t := 167) W h)
 obtain ⟨w1, hw1⟩ : ∃ w1 : World, w.alloc (.cells #[.string nm, .slice ao m acap, .slice ro rn rcap, .map (some b)] 167) = w1 := ⟨_, rfl⟩
 rw [hw1] at hb1 M4 hs1
 have WW := hid hw1
 have B1 := hid hb1
 have M1 := hid (hm.below hb1)
 have W1 := hid (hb.trans (hb1.mono hb.size))
 have HBB := hid hbb
 have HBL := hid hblt
 have HNN := hid hN
 have HXF := hid hX
 have H16 := hid h16
 have HS1 := hid hs1
 have hs01 := W1.out.size
 obtain ⟨x0, x1, x2, x3⟩ := M4.out w1 (Below.refl _ _)
 have CX := hid (fun (W : World) (h : w1.grownBy W (some b)) => show W.cell? ⟨w.heap.size, 0, none⟩ = some (.string nm) /\ W.cell? ⟨w.heap.size, 1, none⟩ = some (.slice ao m acap) /\ W.cell? ⟨w.heap.size, 2, none⟩ = some (.slice ro rn rcap) /\ W.cell? ⟨w.heap.size, 3, none⟩ = some (.map (some b)) from by
  have f : ∀ (p : Addr) (v : Value), p.block ≠ b -> w1.cell? p = some v -> W.cell? p = some v := fun p v hne hv => (h.cell_far p (World.block_lt_of_cell? _ _ hv) (fun e => hne (Option.some.inj e))).trans hv
  have hb' := HBL.out
  exact ⟨f _ _ (by show w.heap.size ≠ b; omega) x0, f _ _ (by show w.heap.size ≠ b; omega) x1, f _ _ (by show w.heap.size ≠ b; omega) x2, f _ _ (by show w.heap.size ≠ b; omega) x3⟩)
 have m0 : (0 : Int) <= (m : Int) := by omega
 have m16 : (m : Int) <= 16 := by omega
 clear hb hbb hm hN hblt HO HH hX h16 hb1 hw1 hs1
 go_enter Tryz.func112, Tryz.ntmps112
 go_wp2_with fail
 rw [WW.out]
 go_wp2_with fail
 clear x0 x1 x2 x3
 go_loopw [5, 17] (fun u idx wr => ∃ (k : Nat) (fs : List Nat), k <= m /\ idx = .int .i64 k /\ wr.ownsRow w1.heap.size 3 1 u fs.length (fs.map encI) /\ Hid (∀ a ∈ fs, a < m) /\ fs.length <= k /\ Memo SM b (N + k) wr /\ w1.grownBy wr (some b)) (fun _ idx _ => m - (intOf idx).toNat)
 case atStart => exact ⟨0, [], Nat.zero_le _, rfl, World.ownsRow_nil _ _ _ _, hid (fun _ h => by cases h), Nat.le_refl _, M1.out.mono (by omega), World.grownBy.refl _ _⟩
 case round =>
  obtain ⟨k, fs, hk, rfl, hown, HFS, hfl, hmm, hgg⟩ := hrel
  have hsz := hgg.size
  have k0 : (0 : Int) <= (k : Int) := by omega
  by_cases hlt : k < m
  ·have HO1 := hid hown
   have MM := hid hmm
   have GG := hid hgg
   have HLT := hid hlt
   have HFL := hid hfl
   have OK2 := hid (show okC m (X, (k : Int), -1) from ⟨HXF.out, k0, by show (k : Int) < (m : Int); omega, by show (-1 : Int) <= -1; omega, by show (-1 : Int) < (m : Int); omega⟩)
   have LX := hid (HHX.out (X, (k : Int), -1) (N + k) wr (W1.out.trans (grow_kept GG.out HBB.out hs01)) MM.out (by have := HNN.out; have := H16.out; omega) OK2.out)
   simp only at LX
   obtain ⟨x0, x1, x2, x3⟩ := CX.out wr hgg
   clear hown hmm hgg hlt hfl
   have BZ := bit_zeroN X k
   cases hbit : X.getLsbD k with
   | true =>
    rw [hbit, Bool.not_true] at BZ
    go_wp2_with fail
    go_roundw
    case rel => exact ⟨k + 1, fs, by have := HLT.out; omega, by go_num, HO1.out, HFS, by have := HFL.out; omega, MM.out.mono (by omega), GG.out⟩
    case measure => have := HLT.out; simp [intOf]; omega
   | false =>
    rw [hbit, Bool.not_false] at BZ
    cases hq : SM (X, (k : Int), -1) with
    | true =>
     rw [hq] at LX
     go_wp2_with fail
     refine LX.out.mono ?_
     rintro e w5 ⟨rfl, hm5, hg5⟩
     have M5 := hid hm5
     have G5 := hid (grow_trans GG.out hg5)
     have O5 := hid (own_kept HO1.out hg5 (fun j hj => by cases hj; have := HBL.out; have := HS1.out; omega))
     clear hm5 hg5 hq hbit x0 x1 x2 x3
     go_wp2_with fail
     go_roundw
     case rel => exact ⟨k + 1, fs, by have := HLT.out; omega, by go_num, O5.out, HFS, by have := HFL.out; omega, M5.out.mono (by omega), G5.out⟩
     case measure => have := HLT.out; simp [intOf]; omega
    | false =>
     rw [hq] at LX
     go_wp2_with fail
     refine LX.out.mono ?_
     rintro e w5 ⟨rfl, hm5, hg5⟩
     have M5 := hid hm5
     have G5 := hid (grow_trans GG.out hg5)
     have O5 := hid (own_kept HO1.out hg5 (fun j hj => by cases hj; have := HBL.out; have := HS1.out; omega))
     have S5 := hid (show w1.heap.size <= w5.heap.size from G5.out.size)
     clear hm5 hg5 hq hbit x0 x1 x2 x3
     go_wp2_with (at_builtin; refine wpList_push rfl _ _ 114 rfl w1.heap.size 3 (.int .i64 0) 8 undInts infoInt rfl (by decide) encI (fun _ => rfl) _ fs rfl (O5.out.alloc _) ⟨w5.heap.size, 0, none⟩ k rfl (by simp [encI]) (by have := HFL.out; omega) (by have := S5.out; simp; omega) ?_)
     intro v6 w6 hown6 hg6
     have O6 := hid (show w6.ownsRow w1.heap.size 3 1 v6 (fs ++ [k]).length ((fs ++ [k]).map encI) by simpa using hown6)
     have G6 := hid (grow_push G5.out hg6 (fun j hj => (O5.out.lt j hj).1))
     have M6 := hid ((M5.out.below (below_alloc w5 _)).kept hg6 (fun e => by have := (O5.out.lt b e.symm).1; have := HBL.out; have := HS1.out; omega))
     clear hown6 hg6
     go_wp2_with fail
     go_roundw
     case rel => exact ⟨k + 1, fs ++ [k], by have := HLT.out; omega, by go_num, O6.out, hid (fun x hx => by rcases List.mem_append.1 hx with h1 | h1; exact HFS.out x h1; rw [List.mem_singleton.1 h1]; exact HLT.out), by rw [List.length_append, List.length_singleton]; have := HFL.out; omega, M6.out.mono (by omega), G6.out⟩
     case measure => have := HLT.out; simp [intOf]; omega
  ·obtain rfl : k = m := by omega
   have RF := hid (RdE.of_owns hown (by omega))
   have FF := hid (far_own hown (show b < w1.heap.size by have := HBL.out; have := HS1.out; omega))
   obtain ⟨fo, fcap, rfl, -, hfc⟩ := RF.out.split
   have hfcap : fs.length <= fcap := by
    obtain ⟨ao', cap', e, h1, _⟩ := RF.out
    cases e; exact h1
   obtain ⟨wf, rfl⟩ : ∃ wf : World, wf = wr := ⟨_, rfl⟩
   have MF := hid hmm
   have GF := hid hgg
   have HFL := hid hfl
   have FC := hid (fun (W : World) (h : wf.grownBy W (some b)) => show RdE encI W (.slice fo fs.length fcap) fs from RdE.grown RF.out h FF.out)
   have f16 : (fs.length : Int) <= 16 := by omega
   clear hown hmm hgg hlt hfc
   go_wp2_with fail
   go_loopw [7, 40] (fun u idx wr => ∃ (i : Nat) (os : List C3S), i <= fs.length /\ idx = .int .i64 i /\ wr.ownsRow wf.heap.size 78 3 u os.length (os.flatMap cC3) /\ Hid (pairOk os (16 * i)) /\ Memo SM b (N + 16 + 640 * i) wr /\ wf.grownBy wr (some b)) (fun _ idx _ => fs.length - (intOf idx).toNat)
   case atStart => exact ⟨0, [], Nat.zero_le _, rfl, World.ownsRow_nil _ _ _ _, hid (pairOk.nil _), MF.out.mono (by have := H16.out; omega), World.grownBy.refl _ _⟩
   case round =>
    obtain ⟨i, os, hi, rfl, hown, HP, hmm, hgg⟩ := hrel
    have hszi := hgg.size
    have i0 : (0 : Int) <= (i : Int) := by omega
    by_cases hlt : i < fs.length
    ·obtain ⟨a, ha⟩ := get_some hlt
     have ham := HFS.out a (List.mem_of_getElem? ha)
     obtain ⟨ao2, acap2, he, -, hc2⟩ := (FC.out wr hgg).split
     simp only [Value.slice.injEq] at he
     obtain ⟨rfl, -, rfl⟩ := he
     obtain ⟨fb, foff, rfl, hd⟩ := hc2 i a ha
     have e0 := hd wr (Below.refl _ _)
     unfold encI at e0
     have HLT := hid hlt
     have HAM := hid ham
     by_cases hlast : i + 1 = fcap
     ·have hn1 : fs.length = i + 1 := by omega
      have HN1 := hid hn1
      have hcc : (i : Int) + 1 = (fcap : Int) := by omega
      have HO1 := hid hown
      have MM := hid hmm
      have GG := hid hgg
      clear hlast hn1 hown hmm hgg hd ha
      go_upto_region 12 with fail
      clear e0
      go_wp2_with fail
      go_loopw [7, 50] (fun u idx wr2 => idx = .int .i64 0 /\ wr2.ownsRow wf.heap.size 78 3 u os.length (os.flatMap cC3) /\ wr2 = wr) (fun _ _ _ => 0)
      case atStart => exact ⟨rfl, HO1.out, by first | rfl | trivial⟩
      case round =>
       obtain ⟨rfl, ho2, rfl⟩ := hrel
       have HO2 := hid ho2
       have hlt0 := HN1.out
       clear ho2
       go_wp2_with fail
       go_roundw
       case rel => exact ⟨i + 1, os, by omega, by go_num, HO2.out, hid (HP.out.mono (by omega)), MM.out.mono (by omega), GG.out⟩
       case measure => simp [intOf]; omega
     ·have hlast2 : i + 1 < fcap := by omega
      obtain ⟨N3, hN⟩ : ∃ N3, fs.length - (i + 1) = N3 := ⟨_, rfl⟩
      have HN := hid hN
      have hNb : N3 <= 16 := by omega
      have HO1 := hid hown
      have MM := hid hmm
      have GG := hid hgg
      clear hlast hown hmm hgg hd ha
      go_upto_region 12 with fail
      clear e0
      go_wp2_with fail
      clear hN
      go_loopw [7, 50] (fun u idx wr => ∃ (j : Nat) (os : List C3S), j <= N3 /\ idx = .int .i64 j /\ wr.ownsRow wf.heap.size 78 3 u os.length (os.flatMap cC3) /\ Hid (pairOk os (16 * i + j)) /\ Memo SM b (N + 16 + 640 * i + 40 * j) wr /\ wf.grownBy wr (some b)) (fun _ idx _ => N3 - (intOf idx).toNat)
      case atStart => exact ⟨0, os, Nat.zero_le _, rfl, HO1.out, HP, MM.out, GG.out⟩
      case round =>
       obtain ⟨j, os2, hj, rfl, ho2, HP2, hm2, hg2⟩ := hrel
       have hszj := hg2.size
       have j0 : (0 : Int) <= (j : Int) := by omega
       by_cases hlt2 : j < N3
       ·obtain ⟨b2, hb2'⟩ := get_some (show i + 1 + j < fs.length by have := HN.out; omega)
        have hbm := HFS.out b2 (List.mem_of_getElem? hb2')
        obtain ⟨ao3, acap3, he, -, hc3⟩ := (FC.out wr hg2).split
        simp only [Value.slice.injEq] at he
        obtain ⟨rfl, -, -⟩ := he
        obtain ⟨fb3, foff3, he, hd3⟩ := hc3 (i + 1 + j) b2 hb2'
        cases he
        have e1 := hd3 wr (Below.refl _ _)
        unfold encI at e1
        rw [show foff + (i + 1 + j) = foff + (i + 1) + j by omega] at e1
        have HLT2 := hid hlt2
        have HP3 := hid HP2.out
        have HO2 := hid ho2
        have MM2 := hid hm2
        have GG2 := hid hg2
        have OK2 := hid (show okC k ((X, (a : Int), (b2 : Int)) : C3S) from ⟨HXF.out, by show (0 : Int) <= (a : Int); omega, by show (a : Int) < (k : Int); have := HAM.out; omega, by show (-1 : Int) <= (b2 : Int); omega, by show (b2 : Int) < (k : Int); omega⟩)
        have hbx := below_alloc wr (.cells #[.int .u32 (iv X), .int .i64 (a : Int), .int .i64 (b2 : Int)] 78)
        have C3 := hid (fun (W : World) h => cells3 (w := wr) (a := .int .u32 (iv X)) (b := .int .i64 (a : Int)) (c := .int .i64 (b2 : Int)) (t := 78) W h)
        obtain ⟨y0, y1, y2⟩ := C3.out _ (Below.refl _ _)
        obtain ⟨z0, z1, z2, z3⟩ := CX.out _ (grow_trans (grow_trans GF.out hg2) (grow_below (some b) hbx))
        obtain ⟨w2, hw2⟩ : ∃ w2 : World, wr.alloc (.cells #[.int .u32 (iv X), .int .i64 (a : Int), .int .i64 (b2 : Int)] 78) = w2 := ⟨_, rfl⟩
        have W2 := hid hw2
        have B2 := hid (show Below wr.heap.size wr w2 by rw [<- hw2]; exact hbx)
        have C3' := hid (show ∀ W : World, Below w2.heap.size w2 W -> _ from by rw [<- hw2]; exact C3.out)
        have HO3 := hid (own_below HO2.out B2.out)
        have M2 := hid (MM2.out.below B2.out)
        have G2 := hid (grow_trans GG2.out (grow_below (some b) B2.out))
        have G2' := hid (grow_trans GF.out G2.out)
        have BB2 := hid (show 0 <= (b2 : Int) by omega)
        have LX := hid (HOX.out ((X, (a : Int), (b2 : Int)) : C3S) (N + 16 + 640 * i + 40 * j) w2 (W1.out.trans (grow_kept G2'.out HBB.out hs01)) M2.out (by have := HNN.out; have := H16.out; have := HFL.out; omega) OK2.out)
        simp only at LX
        clear hw2 hbx hb2' hd3 hc3 ho2 hm2 hg2 hlt2
        obtain ⟨lv, hlv⟩ : ∃ lv, lesB SM ((X, (a : Int), (b2 : Int)) : C3S) = lv := ⟨_, rfl⟩
        rw [hlv] at LX
        clear hlv
        go_wp2_with fail
        rw [W2.out]
        clear e1 y0 y1 y2 z0 z1 z2 z3
        refine LX.out.mono ?_
        rintro e w5 ⟨rfl, hm5, hg5⟩
        have M5 := hid hm5
        have G5 := hid (grow_trans G2.out hg5)
        have SF := hid (show w1.heap.size <= wf.heap.size from GF.out.size)
        have O5 := hid (own_kept HO3.out hg5 (fun j' hj' => by cases hj'; have := HBL.out; have := HS1.out; have := SF.out; omega))
        have f : ∀ (p : Addr) (v : Value), p.block ≠ b -> w2.cell? p = some v -> w5.cell? p = some v := fun p v hne hv => (hg5.cell_far p (World.block_lt_of_cell? _ _ hv) (fun e => hne (Option.some.inj e))).trans hv
        obtain ⟨y0, y1, y2⟩ := C3'.out w2 (Below.refl _ _)
        have hbw : b < wr.heap.size := by have := HBL.out; have := HS1.out; have := SF.out; omega
        have y0' := f _ _ (by show wr.heap.size ≠ b; omega) y0
        have y1' := f _ _ (by show wr.heap.size ≠ b; omega) y1
        have y2' := f _ _ (by show wr.heap.size ≠ b; omega) y2
        have S5 := hid (show wf.heap.size <= w5.heap.size from G5.out.size)
        clear hm5 hg5 f y0 y1 y2
        cases lv with
        | true =>
         go_wp2_with (at_builtin; refine wpList_pushC rfl _ _ 70 rfl wf.heap.size 78 (.agg #[.int .u32 0, .int .i64 0, .int .i64 0]) 3 24 undCans infoCan rfl (by decide) (by decide) cC3 cC3_length cC3_one _ os2 rfl (O5.out.alloc _) ⟨w5.heap.size, 0, none⟩ ((X, (a : Int), (b2 : Int)) : C3S) rfl (cells_newC3 w5 ((X, (a : Int), (b2 : Int)) : C3S)) (by have := HP3.out.2; have := HFL.out; have := H16.out; have := HLT.out; omega) (by have := S5.out; simp; omega) ?_)
         intro v6 w6 hown6 hg6
         have O6 := hid (show w6.ownsRow wf.heap.size 78 3 v6 (os2 ++ [((X, (a : Int), (b2 : Int)) : C3S)]).length ((os2 ++ [((X, (a : Int), (b2 : Int)) : C3S)]).flatMap cC3) by simpa using hown6)
         have G6 := hid (grow_push G5.out hg6 (fun j hj => (O5.out.lt j hj).1))
         have M6 := hid ((M5.out.below (below_alloc w5 _)).kept hg6 (fun e => by have := (O5.out.lt b e.symm).1; have := HBL.out; have := HS1.out; have := SF.out; omega))
         clear hown6 hg6 y0' y1' y2'
         go_wp2_with fail
         go_roundw
         case rel => exact ⟨j + 1, os2 ++ [((X, (a : Int), (b2 : Int)) : C3S)], by have := HLT2.out; omega, by go_num, O6.out, hid (HP3.out.push BB2.out), M6.out.mono (by omega), G6.out⟩
         case measure => have := HLT2.out; simp [intOf]; omega
        | false =>
         go_wp2_with fail
         go_roundw
         case rel => exact ⟨j + 1, os2, by have := HLT2.out; omega, by go_num, O5.out, hid (HP3.out.mono (by omega)), M5.out.mono (by omega), G5.out⟩
         case measure => have := HLT2.out; simp [intOf]; omega
       ·have HO3 := hid ho2
        have MM3 := hid hm2
        have GG3 := hid hg2
        clear ho2 hm2 hg2
        go_wp2_with fail
        go_roundw
        case rel => exact ⟨i + 1, os2, by have := HLT.out; omega, by go_num, HO3.out, hid (HP2.out.mono (by have := HN.out; omega)), MM3.out.mono (by have := HN.out; omega), GG3.out⟩
        case measure => have := HLT.out; simp [intOf]; omega
    ·have O9 := hid (own_mono hown (Nat.le_trans B1.out.size GF.out.size))
     have G9 := hid (grow_trans (grow_below (some b) B1.out) (grow_trans GF.out hgg))
     have M9 := hid (hmm.mono (show N + 16 + 640 * i <= N + 11000 by have := H16.out; have := HFL.out; omega))
     have P9 := hid (HP.out.mono (show 16 * i <= 256 by have := H16.out; have := HFL.out; omega))
     clear hown hmm hgg
     go_wp2_with fail
     go_ret
     exact ⟨_, os, rfl, O9.out, P9.out, M9.out, G9.out⟩

end Go.Proofs.YtalejolehccclaaGreatDoor

/- The walks of odmine's check and All. -/
namespace Go.Proofs.YtalejolehccclaaGreatDoor
open Go.RowKit
set_option linter.unusedVariables false

theorem ocheckm_any (t : T3) (av rv : Value) (w : World) (ht : RdT w av rv t) (hk : tabE2 t = 0) (h6 : t.2.1.length <= 6) :
  Calls Tryz.prog 110 #[.agg #[.string t.1, av, rv]] w fun e w' => e = .returned (.int .i64 0) /\ Below w.heap.size w w' := by
 have hb0 := below_alloc w (.cells #[.string t.1, av, rv] 32)
 have C3 := hid (fun W h => cells3 (w := w) (a := .string t.1) (b := av) (c := rv) (t := 32) W h)
 have T0 := hid (ht.below hb0)
 obtain ⟨w0, hw0⟩ : ∃ w0 : World, w.alloc (.cells #[.string t.1, av, rv] 32) = w0 := ⟨_, rfl⟩
 rw [hw0] at hb0 C3 T0
 have B0 := hid hb0
 have W0 := hid hw0
 have hsz0 := hb0.size
 clear hb0 hw0
 have VA := hid (tvalid_any t av rv w0 T0.out)
 rw [tabE2_tab hk] at VA
 obtain ⟨-, h200, -⟩ := tabE2_ok hk
 obtain ⟨nm, ats, rs⟩ := t
 obtain ⟨ao, acap, hva, -⟩ := T0.out.1.split
 obtain ⟨ro, rcap, hvr, -⟩ := RdR.split T0.out.2
 simp only at hva hvr
 subst hva hvr
 replace h200 : rs.length <= 200 := h200
 replace h6 : ats.length <= 6 := h6
 have d1 : decide ((ats.length : Int) > 6) = false := by rw [decide_eq_false_iff_not]; omega
 have d2 : decide ((6 : Int) < (ats.length : Int)) = false := by rw [decide_eq_false_iff_not]; omega
 have d3 : decide ((rs.length : Int) > 200) = false := by rw [decide_eq_false_iff_not]; omega
 have d4 : decide ((200 : Int) < (rs.length : Int)) = false := by rw [decide_eq_false_iff_not]; omega
 have H1 := hid h200
 have H2 := hid h6
 obtain ⟨k0, k1, k2⟩ := C3.out _ (Below.refl _ _)
 clear ht hk h200 h6
 go_enter Tryz.func110, Tryz.ntmps110
 go_wp2_with fail
 rw [W0.out]
 go_wp2_with fail
 refine VA.out.mono ?_
 rintro e w1 ⟨rfl, hb1⟩
 have B1 := hid (B0.out.trans (hb1.mono hsz0))
 obtain ⟨k0', k1', k2'⟩ := C3.out _ hb1
 clear hb1 k0 k1 k2 VA
 go_wp2_with fail
 go_ret
 exact ⟨rfl, B1.out⟩

def isC (c : C3S) : Bool := c.2.2 == -1
theorem isC_con (SM : C3S -> Bool) (X : S) (m : Nat) : (conL SM X m).filter isC = conL SM X m := by
 rw [List.filter_eq_self]
 intro c hc
 unfold conL at hc
 obtain ⟨a, -, rfl⟩ := List.mem_map.1 hc
 rfl
theorem isC_pair {os : List C3S} {n : Nat} (h : pairOk os n) : os.filter isC = [] := by
 rw [List.filter_eq_nil_iff]
 intro c hc
 have := h.1 c hc
 unfold isC
 simp; omega
theorem grow_app {w1 wr w6 : World} {b : Nat} {row : Option Nat} (h : w1.grownBy wr (some b)) (hg : wr.grownBy w6 row) (hr : ∀ j, row = some j -> w1.heap.size <= j) : w1.grownBy w6 (some b) :=
 ⟨hg.os.trans h.os, hg.tape.trans h.tape, hg.output.trans h.output, Nat.le_trans h.size hg.size, fun k hk hne =>
  (hg.block k (by have := h.size; omega) (fun e => by have := hr k e.symm; omega)).trans (h.block k hk hne)⟩

set_option maxHeartbeats 800000 in
set_option maxRecDepth 100000 in
theorem oall_any (t : T3) (av rv : Value) (w : World) (ht : RdT w av rv t) (hk : tabE2 t = 0) (h6 : t.2.1.length <= 6) :
  Calls Tryz.prog 60 #[.agg #[.string t.1, av, rv]] w fun e w' => ∃ (v' : Value) (L : List C3S) (ys : List S), e = .returned (.tuple #[v', .int .i64 0]) /\ w'.ownsRow w.heap.size 78 3 v' L.length (L.flatMap cC3) /\ L.length <= 20000 /\ L.filter isC = ys.flatMap (fun X => conL (SATm t.2.1.length t.2.2) X t.2.1.length) /\ IsOrd ys (fun s => sub s (fullN t.2.1.length)) /\ Below w.heap.size w w' := by
 have hb0 := below_alloc w (.cells #[.string t.1, av, rv] 32)
 have C3 := hid (fun W h => cells3 (w := w) (a := .string t.1) (b := av) (c := rv) (t := 32) W h)
 have T0 := hid (ht.below hb0)
 obtain ⟨w0, hw0⟩ : ∃ w0 : World, w.alloc (.cells #[.string t.1, av, rv] 32) = w0 := ⟨_, rfl⟩
 rw [hw0] at hb0 C3 T0
 have B0 := hid hb0
 have W0 := hid hw0
 have hsz0 := hb0.size
 clear hb0 hw0
 have CK := hid (ocheckm_any t av rv w0 T0.out hk h6)
 have T1 := hid (fun (W : World) (h : Below w0.heap.size w0 W) => T0.out.below h)
 have HH := hid (fun (w1 : World) (h1 : Below w0.heap.size w0 w1) (b : Nat) (hbb : w1.heap.size <= b) (c : C3S) (N : Nat) (W : World) (h : Below w1.heap.size w1 W) (hm : Memo (SATm t.2.1.length t.2.2) b N W) (hN : N < 1000000000) (hc : okC t.2.1.length c) => holds_any t av rv c b N w1 W (T0.out.below h1) hk h hbb hm hN hc)
 obtain ⟨nm, ats, rs⟩ := t
 obtain ⟨ao, acap, hva, -⟩ := T0.out.1.split
 obtain ⟨ro, rcap, hvr, -⟩ := RdR.split T0.out.2
 simp only at hva hvr
 subst hva hvr
 replace h6 : ats.length <= 6 := h6
 show Calls _ _ _ _ fun e w' => ∃ (v' : Value) (L : List C3S) (ys : List S), e = .returned (.tuple #[v', .int .i64 0]) /\ w'.ownsRow w.heap.size 78 3 v' L.length (L.flatMap cC3) /\ L.length <= 20000 /\ L.filter isC = ys.flatMap (fun X => conL (SATm ats.length rs) X ats.length) /\ IsOrd ys (fun s => sub s (fullN ats.length)) /\ Below w.heap.size w w'
 replace HH := hid (fun (w1 : World) (h1 : Below w0.heap.size w0 w1) (b : Nat) (hbb : w1.heap.size <= b) (c : C3S) (N : Nat) (W : World) (h : Below w1.heap.size w1 W) (hm : Memo (SATm ats.length rs) b N W) (hN : N < 1000000000) (hc : okC ats.length c) => show Calls Tryz.prog 152 #[minV nm (.slice ao ats.length acap) (.slice ro rs.length rcap) b, vC3 c] W fun e w' => e = .returned (.bool (SATm ats.length rs c)) /\ Memo (SATm ats.length rs) b (N + 1) w' /\ W.grownBy w' (some b) from HH.out w1 h1 b hbb c N W h hm hN hc)
 obtain ⟨SM, hSM⟩ : ∃ SM, SATm ats.length rs = SM := ⟨_, rfl⟩
 rw [hSM] at HH ⊢
 have LE := hid (fun (w1 : World) (h1 : Below w0.heap.size w0 w1) (b : Nat) (hbb : w1.heap.size <= b) (c : C3S) (N : Nat) (W : World) (h : Below w1.heap.size w1 W) (hm : Memo SM b N W) (hN : N < 900000000) (hc : okC ats.length c) => least_any SM ats.length nm _ _ c b N w1 W h hbb ⟨_, _, _, rfl⟩ ⟨_, _, _, rfl⟩ (fun c N W a1 a2 a3 a4 => HH.out w1 h1 b hbb c N W a1 a2 a3 a4) hm hN hc)
 have CO := hid (fun (w1 : World) (h1 : Below w0.heap.size w0 w1) (b : Nat) (hbb : w1.heap.size <= b) (X : S) (N : Nat) (W : World) (h : Below w1.heap.size w1 W) (hm : Memo SM b N W) (hN : N < 800000000) (hX : sub X (fullN ats.length)) => consts_any SM ats.length nm ao ro acap rs.length rcap X b N w1 W h hbb (fun c N W a1 a2 a3 a4 => LE.out w1 h1 b hbb c N W a1 a2 a3 a4) hm hN (by omega) hX)
 have PA := hid (fun (w1 : World) (h1 : Below w0.heap.size w0 w1) (b : Nat) (hbb : w1.heap.size <= b) (X : S) (N : Nat) (W : World) (h : Below w1.heap.size w1 W) (hm : Memo SM b N W) (hN : N < 800000000) (hX : sub X (fullN ats.length)) => mpairs_any SM ats.length nm ao ro acap rs.length rcap X b N w1 W h hbb (fun c N W a1 a2 a3 a4 => LE.out w1 h1 b hbb c N W a1 a2 a3 a4) (fun c N W a1 a2 a3 a4 => HH.out w1 h1 b hbb c N W a1 a2 (by omega) a4) hm hN (by omega) hX)
 obtain ⟨m, hm⟩ : ∃ m, ats.length = m := ⟨_, rfl⟩
 have SB := hid (fun W => asubsets_any (1#32 <<< m - 1#32) W)
 have SF := hid (shl_full (show m < 32 by omega))
 have PF := hid (pop_full12 (show m <= 12 by omega))
 simp only [enc_eq] at SB
 rw [hm] at CO PA h6 C3 W0 ⊢
 unfold minV at CO PA
 have H6 := hid h6
 have m0 : (0 : Int) <= (m : Int) := by omega
 have m6 : (m : Int) <= 6 := by omega
 obtain ⟨k0, k1, k2⟩ := C3.out _ (Below.refl _ _)
 rw [hm] at CK
 clear ht hk h6 hSM hm HH LE T1
 have hmm := @run_makeMap Tryz.prog
 go_enter Tryz.func60, Tryz.ntmps60
 go_wp2_with fail
 rw [W0.out]
 go_wp2_with fail
 refine CK.out.mono ?_
 rintro e w1 ⟨rfl, hb1⟩
 have N1 := hid hb1
 obtain ⟨k0', k1', k2'⟩ := C3.out _ hb1
 have HBM := hid (below_alloc w1 (.map #[] 0))
 have HSM := hid (show (w1.alloc (.map #[] 0)).heap.size = w1.heap.size + 1 by simp)
 have MM0 := hid (Memo.made SM 0 w1)
 obtain ⟨z0, z1, z2⟩ := C3.out (w1.alloc (.map #[] 0)) (hb1.trans (HBM.out.mono hb1.size))
 have hm6 : m <= 6 := by omega
 clear hb1 k0 k1 k2
 go_upto_region 5 with fail
 have HBX := below_alloc (w1.alloc (.map #[] 0)) (.cells #[.string nm, .slice ao m acap, .slice ro rs.length rcap, .map (some w1.heap.size)] 167)
 have X4 := cells4 (w := w1.alloc (.map #[] 0)) (a := .string nm) (b := .slice ao m acap) (c := .slice ro rs.length rcap) (d := .map (some w1.heap.size)) (t := 167) _ (Below.refl _ _)
 rw [HSM.out] at X4
 have BX := hid (HBM.out.trans (HBX.mono HBM.out.size))
 have MX := hid (MM0.out.below HBX)
 have SX := hid (show ((w1.alloc (.map #[] 0)).alloc (.cells #[.string nm, .slice ao m acap, .slice ro rs.length rcap, .map (some w1.heap.size)] 167)).heap.size = w1.heap.size + 2 by simp)
 obtain ⟨wx, hwx⟩ : ∃ wx : World, (w1.alloc (.map #[] 0)).alloc (.cells #[.string nm, .slice ao m acap, .slice ro rs.length rcap, .map (some w1.heap.size)] 167) = wx := ⟨_, rfl⟩
 rw [hwx] at X4 BX MX SX ⊢
 clear z0 z1 z2 k0' k1' k2' HBX MM0 hwx HBM HSM hmm
 have NX := hid (N1.out.trans (BX.out.mono N1.out.size))
 obtain ⟨b, hb⟩ : ∃ b, w1.heap.size = b := ⟨_, rfl⟩
 have HB := hid hb
 rw [hb] at X4 MX SX BX ⊢
 obtain ⟨k0, k1, k2⟩ := C3.out wx NX.out
 have NXS := hid NX.out.size
 clear hb
 go_wp2_with fail
 refine (SB.out _).mono ?_
 rintro e w2 ⟨v2, ys, rfl, hown2, hsp, hyl, hb2⟩
 have HS := hid (hsp.2 (by rw [SF.out]; exact PF.out))
 rw [SF.out] at HS
 have YL := hid (show ys.length <= 64 by
  have h1 : ys.length <= 2 ^ m := ord_bound HS.out.1 fun s hs => full_pow (by omega) ((HS.out.2 s).1 hs)
  have h2 : 2 ^ m <= 2 ^ 6 := Nat.pow_le_pow_right (by decide) hm6
  omega)
 have RY := hid (RdE.of_owns hown2 (by have := YL.out; omega))
 have FY := hid (far_own hown2 (show b < wx.heap.size by have := SX.out; omega))
 obtain ⟨yo, ycap, rfl, -⟩ := RY.out.split
 have M2 := hid (MX.out.below hb2)
 have B2 := hid (BX.out.trans (hb2.mono (by have := SX.out; have := HB.out; omega)))
 have HX2 := hid hb2
 have CXM := hid (fun (W : World) (h : w2.grownBy W (some b)) => show W.cell? ⟨b + 1, 0, none⟩ = some (.string nm) /\ W.cell? ⟨b + 1, 1, none⟩ = some (.slice ao m acap) /\ W.cell? ⟨b + 1, 2, none⟩ = some (.slice ro rs.length rcap) /\ W.cell? ⟨b + 1, 3, none⟩ = some (.map (some b)) from by
  obtain ⟨a0, a1, a2, a3⟩ := X4
  have g : ∀ (p : Addr) (v : Value), p.block = b + 1 -> wx.cell? p = some v -> W.cell? p = some v := fun p v hne hv => (h.cell_far p (by have h1 := World.block_lt_of_cell? _ _ hv; exact Nat.lt_of_lt_of_le h1 hb2.size) (fun e => by have := Option.some.inj e; omega)).trans ((hb2.cell (World.block_lt_of_cell? _ _ hv)).trans hv)
  exact ⟨g _ _ rfl a0, g _ _ rfl a1, g _ _ rfl a2, g _ _ rfl a3⟩)
 have B2S := hid (show b <= w2.heap.size by have := hb2.size; have := SX.out; omega)
 clear hown2 hsp hyl hb2 X4 SB k0 k1 k2
 have y64 : (ys.length : Int) <= 64 := by have := YL.out; omega
 have FCY := hid (fun (W : World) (h : w2.grownBy W (some b)) => show RdE enc W (.slice yo ys.length ycap) ys from RdE.grown RY.out h FY.out)
 go_wp2_with fail
 go_loopw [6, 24] (fun u idx wr => ∃ (i : Nat) (L : List C3S), i <= ys.length /\ idx = .int .i64 i /\ wr.ownsRow w2.heap.size 78 3 u L.length (L.flatMap cC3) /\ L.length <= 300 * i /\ Hid (L.filter isC = (ys.take i).flatMap (fun X => conL SM X m)) /\ Memo SM b (12000 * i) wr /\ w2.grownBy wr (some b)) (fun _ idx _ => ys.length - (intOf idx).toNat)
 case atStart => exact ⟨0, [], Nat.zero_le _, rfl, World.ownsRow_nil _ _ _ _, Nat.zero_le _, hid rfl, M2.out, World.grownBy.refl _ _⟩
 case round =>
  obtain ⟨i, L, hi, rfl, hown, hLl, HL, hmm, hgg⟩ := hrel
  have i0 : (0 : Int) <= (i : Int) := by omega
  by_cases hlt : i < ys.length
  ·obtain ⟨X, hX⟩ := get_some hlt
   have HXS := hid ((HS.out.2 X).1 (List.mem_of_getElem? hX))
   have TN := hid (take_next hX)
   obtain ⟨ao2, acap2, he, -, hc2⟩ := (FCY.out wr hgg).split
   simp only [Value.slice.injEq] at he
   obtain ⟨rfl, -, rfl⟩ := he
   obtain ⟨fb, foff, rfl, hd⟩ := hc2 i X hX
   have e0 := hd wr (Below.refl _ _)
   unfold enc at e0
   obtain ⟨x0, x1, x2, x3⟩ := CXM.out wr hgg
   have BW := hid (show Below w1.heap.size w1 wr by rw [HB.out]; exact B2.out.trans (grow_kept hgg (Nat.le_refl _) B2S.out))
   have CC := hid (CO.out w1 N1.out b (by rw [HB.out]; exact Nat.le_refl _) X (12000 * i) wr BW.out hmm (by have := YL.out; omega) HXS.out)
   have HO1 := hid hown
   have GG := hid hgg
   have HLT := hid hlt
   have HLL := hid hLl
   have CLN := hid (conL_len SM X m)
   have I64 := hid (show i <= 64 by have := YL.out; omega)
   clear hX hd hc2 hown hmm hgg hLl
   go_wp2_with fail
   clear e0 x0 x1 x2 x3
   refine CC.out.mono ?_
   rintro e w5 ⟨v5, rfl, ho5, hm5, hg5⟩
   have G5 := hid (grow_trans GG.out hg5)
   have O5 := hid (own_kept HO1.out hg5 (fun j hj => by cases hj; have := SX.out; have := HX2.out.size; omega))
   have R5 := hid (RdC.of_owns cC3_length ho5 (by have := CLN.out; omega))
   have M5 := hid hm5
   have S5 := hid (show w2.heap.size <= w5.heap.size from G5.out.size)
   clear ho5 hm5 hg5 CC
   go_wp2_with (at_builtin; refine wpList_appC rfl _ _ 70 rfl w2.heap.size 78 (.agg #[.int .u32 0, .int .i64 0, .int .i64 0]) 24 undCans infoCan rfl (by decide) (by decide) cC3_length cC3_one _ L rfl O5.out _ (conL SM X m) rfl R5.out (by have := HLL.out; have := CLN.out; have := I64.out; omega) S5.out ?_)
   intro v6 w6 ho6 hg6
   have O6 := hid (show w6.ownsRow w2.heap.size 78 3 v6 (L ++ conL SM X m).length ((L ++ conL SM X m).flatMap cC3) by simpa using ho6)
   have LL6 := hid (show (L ++ conL SM X m).length <= 300 * i + 16 by rw [List.length_append]; have := HLL.out; have := CLN.out; omega)
   have FL6 := hid (show (L ++ conL SM X m).filter isC = (ys.take (i + 1)).flatMap (fun X => conL SM X m) by
    rw [List.filter_append, HL.out, isC_con, TN.out, List.flatMap_append]
    simp)
   obtain ⟨L6, hL6⟩ : ∃ L6, L ++ conL SM X m = L6 := ⟨_, rfl⟩
   rw [hL6] at O6 LL6 FL6
   clear hL6
   have G6 := hid (grow_app G5.out hg6 (fun j hj => (O5.out.lt j hj).1))
   have M6 := hid (M5.out.kept hg6 (fun e => by have := (O5.out.lt b e.symm).1; have := SX.out; have := HX2.out.size; omega))
   obtain ⟨x0, x1, x2, x3⟩ := CXM.out w6 G6.out
   have BW6 := hid (show Below w1.heap.size w1 w6 by rw [HB.out]; exact B2.out.trans (grow_kept G6.out (Nat.le_refl _) B2S.out))
   have PP := hid (PA.out w1 N1.out b (by rw [HB.out]; exact Nat.le_refl _) X (12000 * i + 640) w6 BW6.out M6.out (by have := I64.out; omega) HXS.out)
   clear ho6 hg6
   go_wp2_with fail
   clear x0 x1 x2 x3
   refine PP.out.mono ?_
   rintro e w7 ⟨v7, os, rfl, ho7, hp7, hm7, hg7⟩
   have G7 := hid (grow_trans G6.out hg7)
   have O7 := hid (own_kept O6.out hg7 (fun j hj => by cases hj; have := SX.out; have := HX2.out.size; omega))
   have P7 := hid hp7
   have R7 := hid (RdC.of_owns cC3_length ho7 (by have := P7.out.2; omega))
   have M7 := hid hm7
   have S7 := hid (show w2.heap.size <= w7.heap.size from G7.out.size)
   clear ho7 hp7 hm7 hg7 PP
   go_wp2_with (at_builtin; refine wpList_appC rfl _ _ 70 rfl w2.heap.size 78 (.agg #[.int .u32 0, .int .i64 0, .int .i64 0]) 24 undCans infoCan rfl (by decide) (by decide) cC3_length cC3_one _ L6 rfl O7.out _ os rfl R7.out (by have := LL6.out; have := P7.out.2; have := I64.out; omega) S7.out ?_)
   intro v8 w8 ho8 hg8
   have O8 := hid (show w8.ownsRow w2.heap.size 78 3 v8 (L6 ++ os).length ((L6 ++ os).flatMap cC3) by simpa using ho8)
   have G8 := hid (grow_app G7.out hg8 (fun j hj => (O7.out.lt j hj).1))
   have M8 := hid (M7.out.kept hg8 (fun e => by have := (O7.out.lt b e.symm).1; have := SX.out; have := HX2.out.size; omega))
   have HL8 := hid (show (L6 ++ os).filter isC = (ys.take (i + 1)).flatMap (fun X => conL SM X m) by rw [List.filter_append, FL6.out, isC_pair P7.out, List.append_nil])
   have LL8 := hid (show (L6 ++ os).length <= 300 * (i + 1) by rw [List.length_append]; have := LL6.out; have := P7.out.2; omega)
   clear ho8 hg8
   go_wp2_with fail
   go_roundw
   case rel => exact ⟨i + 1, L6 ++ os, by have := HLT.out; omega, by go_num, O8.out, LL8.out, HL8, M8.out.mono (by omega), G8.out⟩
   case measure => have := HLT.out; simp [intOf]; omega
  ·have HLf := hid (show L.filter isC = ys.flatMap (fun X => conL SM X m) by have h := HL.out; rwa [List.take_of_length_le (by omega)] at h)
   have BF := hid (show Below w.heap.size w wr from B0.out.trans ((N1.out.trans ((show Below w1.heap.size w1 wr by rw [HB.out]; exact B2.out.trans (grow_kept hgg (Nat.le_refl _) B2S.out)).mono N1.out.size)).mono hsz0))
   have OF := hid (own_mono hown (show w.heap.size <= w2.heap.size by have h1 := HB.out; have h2 := N1.out.size; have h3 := B2S.out; omega))
   have LLf := hid (show L.length <= 20000 by have := YL.out; omega)
   clear hown hmm hgg
   go_wp2_with fail
   go_ret2
   exact ⟨_, L, ys, rfl, OF.out, LLf.out, HLf.out, HS.out, BF.out⟩

end Go.Proofs.YtalejolehccclaaGreatDoor

/- The walk of slices.IndexFunc over canonical statements at odmine's test. -/
namespace Go.Proofs.YtalejolehccclaaGreatDoor
open Go.RowKit
set_option linter.unusedVariables false

theorem RdC3.split {w : World} {v : Value} {xs : List C3S} (h : RdC cC3 w v xs) : ∃ ao cap, v = .slice ao xs.length cap /\ xs.length <= 35184372088832 ∧
  ∀ (k : Nat) (x : C3S), xs[k]? = some x -> ∃ b off, ao = some ⟨b, off, none⟩ /\ ∀ wr, Below w.heap.size w wr -> wr.cell? ⟨b, off + k * 3, none⟩ = some (.int .u32 (iv x.1)) /\ wr.cell? ⟨b, off + k * 3 + 1, none⟩ = some (.int .i64 x.2.1) /\ wr.cell? ⟨b, off + k * 3 + 2, none⟩ = some (.int .i64 x.2.2) := by
 obtain ⟨ao, cap, rfl, -, h2, h3⟩ := h
 refine ⟨ao, cap, rfl, h2, fun k x hx => ?_⟩
 obtain ⟨b, off, rfl, hb, hc⟩ := h3 (by have := (List.getElem?_eq_some_iff.1 hx).1; omega)
 have g : ∀ (j : Nat) (u : Value), (cC3 x)[j]? = some u -> w.cell? ⟨b, off + (k * 3 + j), none⟩ = some u := fun j u hu => hc _ _ (flat_at cC3_length xs k x j u hx hu)
 have g0 := g 0 _ rfl
 have g1 := g 1 _ rfl
 have g2 := g 2 _ rfl
 exact ⟨b, off, rfl, fun wr hn => ⟨(hn.cell (p := ⟨b, off + k * 3, none⟩) hb).trans (by simpa using g0), (hn.cell (p := ⟨b, off + k * 3 + 1, none⟩) hb).trans (by simpa [Nat.add_assoc] using g1), (hn.cell (p := ⟨b, off + k * 3 + 2, none⟩) hb).trans (by simpa [Nat.add_assoc] using g2)⟩⟩
def notC (c : C3S) : Bool := !isC c
theorem consts1_any (c : C3S) (w : World) :
  Calls Tryz.prog 62 #[.agg #[.int .u32 (iv c.1), .int .i64 c.2.1, .int .i64 c.2.2]] w fun e w' => e = .returned (.bool (notC c)) /\ Below w.heap.size w w' := by
 have hb := below_alloc w (.cells #[.int .u32 (iv c.1), .int .i64 c.2.1, .int .i64 c.2.2] 78)
 obtain ⟨c0, c1, c2⟩ := cells3 (w := w) (a := .int .u32 (iv c.1)) (b := .int .i64 c.2.1) (c := .int .i64 c.2.2) (t := 78) _ (Below.refl _ _)
 have HB := hid hb
 have HQ := hid (show notC c = (c.2.2 != -1) from rfl)
 clear hb
 go_enter Tryz.func62, Tryz.ntmps62
 go_wp2_with fail
 go_ret
 exact ⟨ret_bool HQ.out.symm, HB.out⟩
def IdxPostC (xs : List C3S) (w : World) (e : Ending) (w' : World) : Prop :=
 Below w.heap.size w w' /\ ((e = .returned (.int .i64 (-1)) /\ xs.any notC = false) ∨ ∃ k, k < xs.length /\ e = .returned (.int .i64 (k : Int)) /\ (xs.take k).any notC = false /\ ∀ x, xs[k]? = some x -> notC x = true)
theorem none_nextC {xs : List C3S} {k : Nat} {x : C3S} (hx : xs[k]? = some x) (hp : notC x = false) (h : (xs.take k).any notC = false) : (xs.take (k + 1)).any notC = false := by
 rw [take_next hx, List.any_append, h]; simp [hp]
theorem indexC_any (xs : List C3S) (v : Value) (w : World) (hv : RdC cC3 w v xs) (hl : xs.length <= 20000) :
  Calls Tryz.prog 113 #[v, .func (.func 62) #[] #[]] w (IdxPostC xs w) := by
 obtain ⟨ao, cap, rfl, h2, hc⟩ := RdC3.split hv
 have HC := hid hc
 have HLL := hid hl
 have eg := enters _ _ _ Tryz.func62 (by kernel_rfl) rfl
 clear hc hv hl
 go_enter Tryz.func113, Tryz.ntmps113
 go_wp2_with fail
 go_loopw [8] (fun i wr => ∃ k : Nat, k <= xs.length /\ i = .int .i64 k /\ Hid ((xs.take k).any notC = false) /\ Below w.heap.size w wr) (fun i _ => xs.length - (intOf i).toNat)
 case atStart => exact ⟨0, Nat.zero_le _, rfl, hid rfl, Below.refl _ _⟩
 case round =>
  obtain ⟨k, hk, rfl, H, hnx⟩ := hrel
  have hsz := hnx.size
  by_cases hlt : k < xs.length
  ·obtain ⟨x, hx⟩ := get_some hlt
   obtain ⟨b, off, rfl, hd⟩ := HC.out k x hx
   obtain ⟨e0, e1, e2⟩ := hd wr hnx
   have X := hid hx
   have NX := hid hnx
   have G1 := hid (consts1_any x wr)
   have k1 : (k : Int) <= 20000 := by have := HLL.out; omega
   clear hd hx hnx
   cases hp : notC x with
   | true =>
    rw [hp] at G1
    have P1 := hid hp
    clear hp
    go_wp2_with fail
    refine G1.out.mono ?_
    rintro e w2 ⟨rfl, hb2⟩
    have B2 := hid (NX.out.trans (hb2.mono hsz))
    clear hb2
    go_wp2_with fail
    go_ret
    exact ⟨B2.out, .inr ⟨k, hlt, rfl, H.out, fun y hy => by rw [X.out] at hy; cases hy; exact P1.out⟩⟩
   | false =>
    rw [hp] at G1
    have P1 := hid hp
    clear hp
    go_wp2_with fail
    refine G1.out.mono ?_
    rintro e w2 ⟨rfl, hb2⟩
    have B2 := hid (NX.out.trans (hb2.mono hsz))
    clear hb2
    go_wp2_with fail
    go_roundw
    case rel => exact ⟨k + 1, by omega, by go_num, hid (none_nextC X.out P1.out H.out), B2.out⟩
    case measure => simp [intOf]; omega
  ·have HE := hid (show xs.any notC = false by have h := H.out; rwa [List.take_of_length_le (by omega)] at h)
   have NX := hid hnx
   clear hnx
   go_wp2_with fail
   go_ret
   exact ⟨NX.out, .inl ⟨rfl, HE.out⟩⟩

end Go.Proofs.YtalejolehccclaaGreatDoor

/- The walks of slices.DeleteFunc over canonical statements at odmine's test, and of odmine.Constants. -/
namespace Go.Proofs.YtalejolehccclaaGreatDoor
open Go.RowKit
set_option linter.unusedVariables false

theorem zeroC_cells (x y z : Value) (n : Nat) : ∀ v ∈ (Builtin.zeroCells #[x, y, z] n).toList, v = x ∨ v = y ∨ v = z := by
 intro v hv
 unfold Builtin.zeroCells at hv
 rw [Array.toList_map, List.mem_map] at hv
 obtain ⟨i, -, rfl⟩ := hv
 have h3 : i % 3 < 3 := Nat.mod_lt _ (by decide)
 show (#[x, y, z] : Array Value)[i % 3]! = x ∨ (#[x, y, z] : Array Value)[i % 3]! = y ∨ (#[x, y, z] : Array Value)[i % 3]! = z
 rcases (by omega : i % 3 = 0 ∨ i % 3 = 1 ∨ i % 3 = 2) with h | h | h <;> rw [h] <;> simp
theorem zeroC_length (x y z : Value) (n : Nat) : (Builtin.zeroCells #[x, y, z] n).toList.length = n * 3 := by
 unfold Builtin.zeroCells
 simp
theorem run_clear_slice3 {P : Program} (w : World) (t e ty : TypeId) (Z x y z : Value) (ht : P.underlying t = some (.slice e)) (hv : ∀ w, (zeroValue e).run P w = .ok Z w) (hz : Z.cells = #[x, y, z]) (h1 : x.oneCell' = true) (h2 : y.oneCell' = true) (h3 : z.oneCell' = true) (b o n c : Nat) (hn : 0 < n)
  (hc : ∀ j, j < n * 3 -> (w.cell? ⟨b, o + j, none⟩).isSome = true) (hf : ∀ j, j < n * 3 -> w.frozen? ⟨b, o + j, none⟩ = false) :
  (Builtin.clear_ #[t] ty #[.slice (some ⟨b, o, none⟩) n c]).run P w = .ok (.tuple #[]) (w.setCells b o (Builtin.zeroCells #[x, y, z] n).toList) := by
 have hst := run_storeCells_cells (P := P) b o (Builtin.zeroCells #[x, y, z] n).toList 0 w (by rw [zeroC_length]; simpa using hc) (by rw [zeroC_length]; simpa using hf) (by intro v hv'; rcases zeroC_cells x y z n v hv' with rfl | rfl | rfl <;> assumption)
 simp only [Nat.add_zero] at hst
 obtain ⟨m, rfl⟩ : ∃ m, n = m + 1 := ⟨n - 1, by omega⟩
 simp [Builtin.clear_, run_underlying ht, hv, hz, hst]
theorem own_takeN {w : World} {B g n cap k s : Nat} {e : TypeId} {xs : List Value} (h : w.ownsRow B e s (.slice (some ⟨g, 0, none⟩) n cap) n xs) (hk : k <= n) : w.ownsRow B e s (.slice (some ⟨g, 0, none⟩) k cap) k (xs.take (k * s)) := by
 have hl : xs.length = n * s := h.1
 have hks : k * s <= n * s := Nat.mul_le_mul_right s hk
 refine ⟨by rw [List.length_take]; omega, ?_⟩
 rcases h.2 with ⟨h1, _⟩ | ⟨g', cap', cur, hv, hB, hg, hnc, hcm, hcs, htake⟩
 ·cases h1
 ·simp only [Value.slice.injEq, Option.some.injEq, Addr.mk.injEq] at hv
  obtain ⟨⟨rfl, -, -⟩, -, rfl⟩ := hv
  refine .inr ⟨g, cap, cur, rfl, hB, hg, by omega, hcm, hcs, ?_⟩
  rw [<- htake, List.take_take, Nat.min_eq_left hks]
theorem own_setCellsN {B g n cap s : Nat} {e : TypeId} : ∀ (vs : List Value) (o : Nat) (w : World) (xs : List Value), w.ownsRow B e s (.slice (some ⟨g, 0, none⟩) n cap) n xs -> ∃ xs', (w.setCells g o vs).ownsRow B e s (.slice (some ⟨g, 0, none⟩) n cap) n xs' /\ xs'.take o = xs.take o := by
 intro vs
 induction vs with
 | nil => intro o w xs h; exact ⟨xs, h, rfl⟩
 | cons u vs ih =>
  intro o w xs h
  obtain ⟨xs', h1, h2⟩ := ih (o + 1) _ _ (h.stored o u).1
  refine ⟨xs', h1, ?_⟩
  have := congrArg (List.take o) h2
  rw [List.take_take, List.take_take, Nat.min_eq_left (by omega)] at this
  rw [this, List.take_set_of_le (Nat.le_refl _)]
theorem flat_set3 {α : Type} {c : α -> List Value} (hc : ∀ x, (c x).length = 3) : ∀ (xs : List α) (k : Nat) (y : α) (a b d : Value), k < xs.length -> c y = [a, b, d] -> (((xs.flatMap c).set (k * 3) a).set (k * 3 + 1) b).set (k * 3 + 2) d = (xs.set k y).flatMap c := by
 intro xs
 induction xs with
 | nil => intro k y a b d h; simp at h
 | cons x xs ih =>
  intro k y a b d h hy
  obtain ⟨p, q, r, hx⟩ : ∃ p q r, c x = [p, q, r] := by
   have := hc x
   match hcx : c x, this with
   | [p, q, r], _ => exact ⟨p, q, r, rfl⟩
  cases k with
  | zero => simp [hx, hy]
  | succ k =>
   rw [List.set_cons_succ, List.flatMap_cons, List.flatMap_cons, hx, <- ih k y a b d (by simpa using h) hy]
   rw [show (k + 1) * 3 = k * 3 + 1 + 1 + 1 by omega]
   rfl
theorem flat_take {α : Type} {c : α -> List Value} {s : Nat} (hc : ∀ x, (c x).length = s) : ∀ (xs : List α) (k : Nat), (xs.flatMap c).take (k * s) = (xs.take k).flatMap c := by
 intro xs
 induction xs with
 | nil => intro k; simp
 | cons x xs ih =>
  intro k
  cases k with
  | zero => simp
  | succ k =>
   rw [List.flatMap_cons, List.take_succ_cons, List.flatMap_cons, List.take_append, hc, <- ih k]
   rw [List.take_of_length_le (by rw [hc, Nat.succ_mul]; omega), show (k + 1) * s - s = k * s by rw [Nat.succ_mul]; omega]
structure DelC (xs : List C3S) (i j : Nat) (dk : List C3S) : Prop where
 size : dk.length = xs.length
 lt : i < j
 low : dk.take i = (xs.take j).filter (fun x => !notC x)
 high : ∀ t, j <= t -> dk[t]? = xs[t]?
theorem none_filterC {xs : List C3S} (h : xs.any notC = false) : xs.filter (fun x => !notC x) = xs := by
 rw [List.filter_eq_self]
 intro x hx
 rw [List.any_eq_false] at h
 simp [h x hx]
theorem DelC.start {xs : List C3S} {k : Nat} {x : C3S} (hx : xs[k]? = some x) (h : (xs.take k).any notC = false) (hp : notC x = true) : DelC xs k (k + 1) xs :=
 ⟨rfl, by omega, by rw [take_next hx, List.filter_append, none_filterC h]; simp [hp], fun _ _ => rfl⟩
theorem DelC.keep {xs dk : List C3S} {i j : Nat} {x : C3S} (h : DelC xs i j dk) (hx : xs[j]? = some x) (hp : notC x = false) : DelC xs (i + 1) (j + 1) (dk.set i x) := by
 have hj := (List.getElem?_eq_some_iff.1 hx).1
 have hi : i < dk.length := by have := h.size; have := h.lt; omega
 refine ⟨by rw [List.length_set]; exact h.size, by have := h.lt; omega, ?_, fun t ht => ?_⟩
 ·rw [take_next hx, List.filter_append, <- h.low, take_next (x := x) (by rw [List.getElem?_set_self hi]), List.take_set_of_le (Nat.le_refl _)]
  simp [hp]
 ·rw [List.getElem?_set_ne (by have := h.lt; omega)]
  exact h.high t (by omega)
theorem DelC.skip {xs dk : List C3S} {i j : Nat} {x : C3S} (h : DelC xs i j dk) (hx : xs[j]? = some x) (hp : notC x = true) : DelC xs i (j + 1) dk :=
 ⟨h.size, by have := h.lt; omega, by rw [take_next hx, List.filter_append, <- h.low]; simp [hp], fun t ht => h.high t (by omega)⟩
theorem notnotC (xs : List C3S) : xs.filter (fun x => !notC x) = xs.filter isC := by
 congr 1; funext x; unfold notC; rw [Bool.not_not]
theorem own3_cells {w : World} {B g n cap : Nat} {e : TypeId} {xs : List C3S} (h : w.ownsRow B e 3 (.slice (some ⟨g, 0, none⟩) n cap) n (xs.flatMap cC3)) {k : Nat} {x : C3S} (hk : k < n) (hx : xs[k]? = some x) :
  w.cell? ⟨g, k * 3, none⟩ = some (.int .u32 (iv x.1)) /\ w.cell? ⟨g, k * 3 + 1, none⟩ = some (.int .i64 x.2.1) /\ w.cell? ⟨g, k * 3 + 2, none⟩ = some (.int .i64 x.2.2) := by
 have g : ∀ (j : Nat) (u : Value), j < 3 -> (cC3 x)[j]? = some u -> w.cell? ⟨g, k * 3 + j, none⟩ = some u := fun j u hj hu => (h.cellAt (k * 3 + j) (by omega)).trans (flat_at cC3_length xs k x j u hx hu)
 exact ⟨g 0 _ (by omega) rfl, g 1 _ (by omega) rfl, g 2 _ (by omega) rfl⟩

set_option maxHeartbeats 1600000 in
theorem deleteC_any (xs : List C3S) (v : Value) (w w0 : World) (hb : Below w0.heap.size w0 w) (hown : w.ownsRow w0.heap.size 78 3 v xs.length (xs.flatMap cC3)) (hl : xs.length <= 20000) :
  Calls Tryz.prog 61 #[v, .func (.func 62) #[] #[]] w fun e w' => ∃ v', e = .returned v' /\ RdC cC3 w' v' (xs.filter isC) /\ Below w0.heap.size w0 w' := by
 have IX := hid (indexC_any xs v w (RdC.of_owns cC3_length hown (by omega)) hl)
 have eg := enters _ _ _ Tryz.func62 (by kernel_rfl) rfl
 have HB := hid hb
 have hs0 := hb.size
 have HO := hid hown
 have HLL := hid hl
 obtain ⟨ao, cap, rfl, -⟩ := RdC.of_owns cC3_length hown (by omega)
 have hl2 : (xs.length : Int) <= 20000 := by omega
 clear hb hown hl
 go_enter Tryz.func61, Tryz.ntmps61
 go_wp2_with fail
 refine IX.out.mono ?_
 rintro e w1 ⟨hb1, ⟨rfl, hnone⟩ | ⟨k0, hk0, rfl, hfirst, hhit⟩⟩
 ·have NF := hid (none_filterC hnone)
  have HO1 := hid (own_below HO.out hb1)
  have B1 := hid (HB.out.trans (hb1.mono hs0))
  clear hnone hb1
  go_wp2_with fail
  go_ret
  exact ⟨_, rfl, by rw [<- notnotC, NF.out]; exact RdC.of_owns cC3_length HO1.out (by have := HLL.out; omega), B1.out⟩
 ·obtain ⟨x0, hx0⟩ := get_some hk0
  have D0 := hid (DelC.start hx0 hfirst (hhit x0 hx0))
  obtain ⟨gb, gcap, hform⟩ : ∃ gb gcap, Value.slice ao xs.length cap = .slice (some ⟨gb, 0, none⟩) xs.length gcap := by
   rcases HO.out.2 with ⟨h1, h2⟩ | ⟨g', cap', cur, hv, _⟩
   ·omega
   ·exact ⟨g', cap', hv⟩
  simp only [Value.slice.injEq] at hform
  obtain ⟨rfl, -, rfl⟩ := hform
  have HO1 := hid (own_below HO.out hb1)
  have B1 := hid (HB.out.trans (hb1.mono hs0))
  have hkne : ((k0 : Int) == -1) = false := beq_eq_false_iff_ne.2 (by omega)
  have hgb := HO1.out.lt gb rfl
  have hcapn : xs.length <= cap := by
   rcases HO.out.2 with ⟨h1, _⟩ | ⟨g', cap', cur, hv, _, _, hnc, _⟩
   ·cases h1
   ·simp only [Value.slice.injEq] at hv; omega
  clear hfirst hhit hx0 hb1
  have k00 : (0 : Int) <= (k0 : Int) := by omega
  go_wp2_with fail
  go_loopw [5, 6] (fun i j wr => ∃ (a b : Nat) (dk : List C3S), b <= xs.length /\ i = .int .i64 a /\ j = .int .i64 b /\ Hid (DelC xs a b dk) /\ wr.ownsRow w0.heap.size 78 3 (.slice (some ⟨gb, 0, none⟩) xs.length cap) xs.length (dk.flatMap cC3) /\ Below w0.heap.size w0 wr) (fun _ j _ => xs.length - (intOf j).toNat)
  case atStart => exact ⟨k0, k0 + 1, xs, by omega, rfl, by go_num, D0, HO1.out, B1.out⟩
  case round =>
   obtain ⟨a, b, dk, hbl, rfl, rfl, D, hown, hnx⟩ := hrel
   have hsz := hnx.size
   have hab := D.out.lt
   have hdl := D.out.size
   have b0 : (0 : Int) <= (b : Int) := by omega
   have a0 : (0 : Int) <= (a : Int) := by omega
   by_cases hlt : b < xs.length
   ·obtain ⟨x, hx⟩ := get_some hlt
    have hxd : dk[b]? = some x := by rw [D.out.high b (Nat.le_refl _), hx]
    obtain ⟨e0, e1, e2⟩ := own3_cells hown hlt hxd
    have ba := below_alloc wr (.cells #[.int .u32 (iv x.1), .int .i64 x.2.1, .int .i64 x.2.2] 78)
    have CV := hid (fun (W : World) h => cells3 (w := wr) (a := .int .u32 (iv x.1)) (b := .int .i64 x.2.1) (c := .int .i64 x.2.2) (t := 78) W h)
    have G1 := hid (consts1_any x (wr.alloc (.cells #[.int .u32 (iv x.1), .int .i64 x.2.1, .int .i64 x.2.2] 78)))
    have HO2 := hid (own_below hown ba)
    have NX := hid (hnx.trans (ba.mono hsz))
    have NXS := hid NX.out.size
    clear ba
    cases hp : notC x with
    | true =>
     rw [hp] at G1
     have D2 := hid (D.out.skip hx hp)
     clear hp hown hnx hx hxd
     go_wp2_with fail
     refine G1.out.mono ?_
     rintro e w2 ⟨rfl, hb2⟩
     have HO3 := hid (own_below HO2.out hb2)
     have NX3 := hid (NX.out.trans (hb2.mono NXS.out))
     clear hb2
     go_wp2_with fail
     go_roundw
     case rel => exact ⟨a, b + 1, dk, by omega, rfl, by go_num, D2, HO3.out, NX3.out⟩
     case measure => simp [intOf]; omega
    | false =>
     rw [hp] at G1
     have D2 := hid (D.out.keep hx hp)
     obtain ⟨y, hy⟩ := get_some (show a < dk.length by omega)
     have HY := hid hy
     clear hp hown hnx hx hxd hy
     go_wp2_with fail
     refine G1.out.mono ?_
     rintro e w2 ⟨rfl, hb2⟩
     have HO3 := hid (own_below HO2.out hb2)
     have NX3 := hid (NX.out.trans (hb2.mono NXS.out))
     obtain ⟨y0, y1, y2⟩ := own3_cells HO3.out (show a < xs.length by omega) HY.out
     obtain ⟨v0, v1, v2⟩ := CV.out w2 hb2
     have z0 : w2.frozen? ⟨gb, a * 3, none⟩ = false := HO3.out.frozenAt _
     have z1 : w2.frozen? ⟨gb, a * 3 + 1, none⟩ = false := HO3.out.frozenAt _
     have z2 : w2.frozen? ⟨gb, a * 3 + 2, none⟩ = false := HO3.out.frozenAt _
     clear hb2 e0 e1 e2
     go_wp2_with fail
     obtain ⟨wf, hwf⟩ : ∃ wf : World, ((w2.setCell ⟨gb, a * 3, none⟩ (.int .u32 (iv x.1))).setCell ⟨gb, a * 3 + 1, none⟩ (.int .i64 x.2.1)).setCell ⟨gb, a * 3 + 2, none⟩ (.int .i64 x.2.2) = wf := ⟨_, rfl⟩
     have ST := ((HO3.out.stored (a * 3) (.int .u32 (iv x.1))).1.stored (a * 3 + 1) (.int .i64 x.2.1)).1.stored (a * 3 + 2) (.int .i64 x.2.2)
     have S1 := hid (show wf.ownsRow w0.heap.size 78 3 (.slice (some ⟨gb, 0, none⟩) xs.length cap) xs.length ((dk.set a x).flatMap cC3) by
      have h1 := ST.1
      rw [hwf, flat_set3 cC3_length dk a x _ _ _ (by omega) rfl] at h1
      exact h1)
     have S2 := hid (show Below w0.heap.size w0 wf by
      rw [<- hwf]
      exact ((NX3.out.setCell (p := ⟨gb, a * 3, none⟩) hgb.1 _).setCell (p := ⟨gb, a * 3 + 1, none⟩) hgb.1 _).setCell (p := ⟨gb, a * 3 + 2, none⟩) hgb.1 _)
     rw [hwf]
     clear ST y0 y1 y2 z0 z1 z2 v0 v1 v2 hwf
     go_wp2_with fail
     go_roundw
     case rel => exact ⟨a + 1, b + 1, dk.set a x, by omega, by go_num, by go_num, D2, S1.out, S2.out⟩
     case measure => simp [intOf]; omega
   ·have hbn : b = xs.length := by omega
    have han : a < xs.length := by omega
    have hlow := D.out.low
    rw [hbn, List.take_of_length_le (Nat.le_refl _), notnotC] at hlow
    have hfl : (xs.filter isC).length = a := by rw [<- hlow, List.length_take]; omega
    have hcl : ∀ ty, (Builtin.clear_ #[70] ty #[.slice (some ⟨gb, a * 3, none⟩) (xs.length - a) (cap - a)]).run Tryz.prog wr = .ok (.tuple #[]) (wr.setCells gb (a * 3) (Builtin.zeroCells #[.int .u32 0, .int .i64 0, .int .i64 0] (xs.length - a)).toList) := fun ty => run_clear_slice3 wr _ _ ty _ _ _ _ undCans (fun w => Tryz.zeroValue78 w) rfl rfl rfl rfl gb (a * 3) _ _ (by omega)
     (fun t ht => by
      have hl3 : (dk.flatMap cC3).length = xs.length * 3 := by rw [flat_length cC3_length, hdl]
      rw [hown.cellAt (a * 3 + t) (by omega), List.getElem?_eq_getElem (by omega)]; rfl)
     (fun t _ => hown.frozenAt _)
    obtain ⟨xs', h1, h2⟩ := own_setCellsN (Builtin.zeroCells #[.int .u32 0, .int .i64 0, .int .i64 0] (xs.length - a)).toList (a * 3) wr _ hown
    have h3 := own_takeN h1 (k := a) (by omega)
    have FIN := hid (show RdC cC3 (wr.setCells gb (a * 3) (Builtin.zeroCells #[.int .u32 0, .int .i64 0, .int .i64 0] (xs.length - a)).toList) (.slice (some ⟨gb, 0, none⟩) a cap) (xs.filter isC) by
     rw [h2, flat_take cC3_length, hlow] at h3
     exact RdC.of_owns cC3_length (by rw [hfl]; exact h3) (by rw [hfl]; have := HLL.out; omega))
    have BF := hid (below_cells gb hgb.1 (Builtin.zeroCells #[.int .u32 0, .int .i64 0, .int .i64 0] (xs.length - a)).toList (a * 3) hnx)
    have D3 := hid D.out
    clear hlow hfl h1 h2 h3 hown hnx D hbn hdl
    go_wp2_with fail
    go_ret
    exact ⟨_, rfl, FIN.out, BF.out⟩

theorem oconst_any (t : T3) (av rv : Value) (w : World) (ht : RdT w av rv t) (hk : tabE2 t = 0) (h6 : t.2.1.length <= 6) :
  Calls Tryz.prog 25 #[.agg #[.string t.1, av, rv]] w fun e w' => ∃ (v' : Value) (ys : List S), e = .returned (.tuple #[v', .int .i64 0]) /\ RdC cC3 w' v' (ys.flatMap (fun X => conL (SATm t.2.1.length t.2.2) X t.2.1.length)) /\ IsOrd ys (fun s => sub s (fullN t.2.1.length)) /\ Below w.heap.size w w' := by
 have hb0 := below_alloc w (.cells #[.string t.1, av, rv] 32)
 have C3 := hid (fun W h => cells3 (w := w) (a := .string t.1) (b := av) (c := rv) (t := 32) W h)
 have T0 := hid (ht.below hb0)
 obtain ⟨w0, hw0⟩ : ∃ w0 : World, w.alloc (.cells #[.string t.1, av, rv] 32) = w0 := ⟨_, rfl⟩
 rw [hw0] at hb0 C3 T0
 have B0 := hid hb0
 have W0 := hid hw0
 have hsz0 := hb0.size
 clear hb0 hw0
 have AL := hid (oall_any t av rv w0 T0.out hk h6)
 have DC := hid (fun (xs : List C3S) (v : Value) (W : World) (hb : Below w0.heap.size w0 W) (ho : W.ownsRow w0.heap.size 78 3 v xs.length (xs.flatMap cC3)) (hl : xs.length <= 20000) => deleteC_any xs v W w0 hb ho hl)
 obtain ⟨nm, ats, rs⟩ := t
 obtain ⟨ao, acap, hva, -⟩ := T0.out.1.split
 obtain ⟨ro, rcap, hvr, -⟩ := RdR.split T0.out.2
 simp only at hva hvr
 subst hva hvr
 show Calls _ _ _ _ fun e w' => ∃ (v' : Value) (ys : List S), e = .returned (.tuple #[v', .int .i64 0]) /\ RdC cC3 w' v' (ys.flatMap (fun X => conL (SATm ats.length rs) X ats.length)) /\ IsOrd ys (fun s => sub s (fullN ats.length)) /\ Below w.heap.size w w'
 replace AL := hid (show Calls Tryz.prog 60 #[.agg #[.string nm, .slice ao ats.length acap, .slice ro rs.length rcap]] w0 fun e w' => ∃ (v' : Value) (L : List C3S) (ys : List S), e = .returned (.tuple #[v', .int .i64 0]) /\ w'.ownsRow w0.heap.size 78 3 v' L.length (L.flatMap cC3) /\ L.length <= 20000 /\ L.filter isC = ys.flatMap (fun X => conL (SATm ats.length rs) X ats.length) /\ IsOrd ys (fun s => sub s (fullN ats.length)) /\ Below w0.heap.size w0 w' from AL.out)
 obtain ⟨k0, k1, k2⟩ := C3.out _ (Below.refl _ _)
 clear ht hk h6 T0
 go_enter Tryz.func25, Tryz.ntmps25
 go_upto_region 1 with fail
 rw [W0.out]
 go_wp2_with fail
 refine AL.out.mono ?_
 rintro e w1 ⟨v1, L, ys, rfl, ho, hl, hf, hord, hb1⟩
 have DD := hid (DC.out L v1 w1 hb1 ho hl)
 have HF := hid hf
 have HORD := hid hord
 clear ho hl hf hord hb1 k0 k1 k2
 go_wp2_with fail
 refine DD.out.mono ?_
 rintro e w2 ⟨v2, rfl, hr2, hb2⟩
 rw [HF.out] at hr2
 have R2 := hid hr2
 have B2 := hid (B0.out.trans (hb2.mono hsz0))
 clear hr2 hb2
 go_wp2_with fail
 go_ret2
 exact ⟨v2, ys, rfl, R2.out, HORD.out, B2.out⟩

end Go.Proofs.YtalejolehccclaaGreatDoor
