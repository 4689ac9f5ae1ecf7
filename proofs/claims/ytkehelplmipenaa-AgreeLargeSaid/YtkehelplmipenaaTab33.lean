/- The walk of drossref03.Table. -/
import Derived.Test.YtkehelplmipenaaTab32
namespace Go.Proofs.Ytkehelplmipenaa
open Go.RowKit
set_option linter.unusedVariables false

theorem RdT.set3 {W : World} {x y z av rv : Value} {t : T3} {b : Nat} (h : RdT W av rv t) (h1 : FarV av (some b)) (h2 : FarV rv (some b)) (h3 : ∀ r ∈ t.2.2, FarV r.2.1 (some b)) : RdT (((W.setCell ⟨b, 0, none⟩ x).setCell ⟨b, 1, none⟩ y).setCell ⟨b, 2, none⟩ z) av rv t :=
  ⟨RdE.set3 h.1 h1, RdC.set3 h.2.1 h2, fun r hr => RdC.set3 (h.2.2 r hr) (h3 r hr)⟩
theorem below_set3 {B : Nat} {w W : World} {x y z : Value} {b : Nat} (h : Below B w W) (hb : B ≤ b) : Below B w (((W.setCell ⟨b, 0, none⟩ x).setCell ⟨b, 1, none⟩ y).setCell ⟨b, 2, none⟩ z) :=
  ((h.setCell (p := ⟨b, 0, none⟩) hb x).setCell (p := ⟨b, 1, none⟩) hb y).setCell (p := ⟨b, 2, none⟩) hb z
/-- What two allocations, a recipe's and a table's, leave in each later world. -/
theorem two_cells (w : World) (x y z : Value) (tr tt : TypeId) (W : World) (h : Below ((w.alloc (.cells #[x, y, z] tr)).alloc (.cells #[.string (ByteArray.mk #[]), .slice none 0 0, .slice none 0 0] tt)).heap.size ((w.alloc (.cells #[x, y, z] tr)).alloc (.cells #[.string (ByteArray.mk #[]), .slice none 0 0, .slice none 0 0] tt)) W) :
    (W.cell? ⟨w.heap.size, 0, none⟩ = some x ∧ W.cell? ⟨w.heap.size, 1, none⟩ = some y ∧ W.cell? ⟨w.heap.size, 2, none⟩ = some z) ∧
    (W.cell? ⟨w.heap.size + 1, 0, none⟩ = some (.string (ByteArray.mk #[])) ∧ W.cell? ⟨w.heap.size + 1, 1, none⟩ = some (.slice none 0 0) ∧ W.cell? ⟨w.heap.size + 1, 2, none⟩ = some (.slice none 0 0)) ∧ ∀ i : Nat, W.frozen? ⟨w.heap.size + 1, i, none⟩ = false := by
  have hb01 := below_alloc (w.alloc (.cells #[x, y, z] tr)) (.cells #[.string (ByteArray.mk #[]), .slice none 0 0, .slice none 0 0] tt)
  refine ⟨cells3 W (hb01.trans (h.mono hb01.size)), ?_, fun i => ?_⟩
  · have := cells3 (w := w.alloc (.cells #[x, y, z] tr)) W h
    rwa [show (w.alloc (.cells #[x, y, z] tr)).heap.size = w.heap.size + 1 by simp] at this
  · refine (h.frozen (p := ⟨w.heap.size + 1, i, none⟩) (by simp)).trans ?_
    have : (w.alloc (.cells #[x, y, z] tr)).heap.size = w.heap.size + 1 := by simp
    rw [← this]; simp

set_option maxHeartbeats 1600000 in
theorem table_ok (a g : U8) (rr : List RcR) (rv : Value) (most : Nat) (w : World) (hr : RdRc w rv rr) (hm : rr.length ≤ most) (hm8 : most ≤ 8) :
    Calls Try.prog 23 #[.agg #[.int .u8 (a.toNat : Int), .int .u8 (g.toNat : Int), rv], .int .i64 (most : Int)] w fun e w' => ∃ (av tv : Value) (t : T3), e = .returned (.tuple #[.agg #[.string t.1, av, tv], .bool true]) ∧ RdT w' av tv t ∧ GoodT t ∧ t.2.2.length ≤ most ∧ t.2.1.length = a.toNat % 6 ∧ FreT w.heap.size av tv t.2.2 ∧ Below w.heap.size w w' := by
  have hah : (a.toNat : Int) ≤ 255 := by have := a.isLt; omega
  have ha0 : (0 : Int) ≤ (a.toNat : Int) := by omega
  obtain ⟨K, hK⟩ : ∃ K, a.toNat % 6 = K := ⟨_, rfl⟩
  have hK6 : K < 6 := by omega
  have hK2 : (a.toNat : Int) % 6 = (K : Int) := by omega
  have K0 : (0 : Int) ≤ (K : Int) := by omega
  have K8 : (K : Int) < 256 := by omega
  rw [hK]
  have CW := hid (fun (W : World) (h : RdRc W rv rr) => wide_any a g rr rv K W h (by omega) (Nat.le_trans hm hm8))
  have GOOD := hid (fun (rs : List Row3) (h : rs.map (fun r => (r.1, r.2.2)) = rowsRc (g.toNat % 3) K rr) => (⟨⟨(rec_good (by omega) (Nat.le_trans hm hm8) h).1, by show (nameN K).length ≤ 5; rw [nameN_length (by omega)]; omega, (rec_good (by omega) (Nat.le_trans hm hm8) h).2⟩, by have := congrArg List.length h; simp [rowsRc] at this; show rs.length ≤ most; omega, by show (nameN K).length = K; exact nameN_length (by omega)⟩ : GoodT (ByteArray.mk #[114], nameN K, rs) ∧ (ByteArray.mk #[114], nameN K, rs).2.2.length ≤ most ∧ (ByteArray.mk #[114], nameN K, rs).2.1.length = K))
  have TC := hid (fun W h => two_cells w (.int .u8 (a.toNat : Int)) (.int .u8 (g.toNat : Int)) rv 50 25 W h)
  have RK := hid hK2
  generalize (a.toNat : Int) = ai at *
  generalize (g.toNat : Int) = gi at *
  have hb00 := below_alloc w (.cells #[.int .u8 ai, .int .u8 gi, rv] 50)
  have hb01 := below_alloc (w.alloc (.cells #[.int .u8 ai, .int .u8 gi, rv] 50)) (.cells #[.string (ByteArray.mk #[]), .slice none 0 0, .slice none 0 0] 25)
  have hb0 := hb00.trans (hb01.mono hb00.size)
  have RR := hid (hr.below hb0)
  obtain ⟨w0, hw0⟩ : ∃ w0 : World, (w.alloc (.cells #[.int .u8 ai, .int .u8 gi, rv] 50)).alloc (.cells #[.string (ByteArray.mk #[]), .slice none 0 0, .slice none 0 0] 25) = w0 := ⟨_, rfl⟩
  have hs0 : w0.heap.size = w.heap.size + 1 + 1 := by rw [← hw0]; simp
  rw [hw0] at hb0 RR TC
  have B0 := hid hb0
  have W0 := hid hw0
  have HS0 := hid hs0
  obtain ⟨ro, rcap, hv, hrl, hrc⟩ := RR.out.split
  subst hv
  have hlm : ¬ ((rr.length : Int) > (most : Int)) := by omega
  obtain ⟨⟨q0, q1, q2⟩, -, -⟩ := TC.out _ (Below.refl _ _)
  clear hb0 hw0 hb00 hb01 hrc hr hs0 hK hK2 hm hm8
  go_enter Try.func23, Try.ntmps23
  go_wp2_with fail
  rw [W0.out]
  go_wp2_with fail
  rw [RK.out]
  go_wp2_with fail
  refine (CW.out _ RR.out).mono ?_
  rintro e w1 ⟨av, tv, rs, rfl, hT, hmap, hF, hb1⟩
  obtain ⟨ao, acap, hva, -⟩ := hT.1.split
  obtain ⟨to, tcap, hvt, -⟩ := RdR.split hT.2
  simp only at hva hvt
  rw [nameN_length (show K ≤ 8 by omega)] at hva
  subst hva hvt
  have GG := hid (GOOD.out rs hmap)
  obtain ⟨-, ⟨z0, z1, z2⟩, zf⟩ := TC.out _ hb1
  have zf0 := zf 0
  have zf1 := zf 1
  have zf2 := zf 2
  have HB1 := hid hb1
  have HT := hid hT
  have HF := hid hF
  clear zf hT hmap hF hb1 GOOD q0 q1 q2
  go_wp2_with fail
  obtain ⟨wf, hwf⟩ : ∃ wf : World, ((w1.setCell ⟨w.heap.size + 1, 0, none⟩ (.string (ByteArray.mk #[114]))).setCell ⟨w.heap.size + 1, 1, none⟩ (.slice ao K acap)).setCell ⟨w.heap.size + 1, 2, none⟩ (.slice to rs.length tcap) = wf := ⟨_, rfl⟩
  obtain ⟨r0, r1, r2⟩ := set3w z0 z1 z2 hwf
  have f3 := HF.out (w.heap.size + 1) (by have := HS0.out; omega)
  have QT : RdT wf (.slice ao K acap) (.slice to rs.length tcap) (ByteArray.mk #[114], nameN K, rs) := by rw [← hwf]; exact RdT.set3 HT.out f3.1 f3.2.1 f3.2.2
  have QB : Below w.heap.size w wf := by rw [← hwf]; exact below_set3 (B0.out.trans (HB1.out.mono (by have := HS0.out; omega))) (by omega)
  rw [hwf]
  exact bodyPost_ret (v := .tuple #[.agg #[.string (ByteArray.mk #[114]), .slice ao K acap, .slice to rs.length tcap], .bool true]) (by simp [results, Try.results23, go_sem, r0, r1, r2]) rfl ⟨.slice ao K acap, .slice to rs.length tcap, (ByteArray.mk #[114], nameN K, rs), rfl, QT, GG.out.1, GG.out.2.1, GG.out.2.2, fun j hj => HF.out j (by have := HS0.out; omega), QB⟩

set_option maxHeartbeats 1600000 in
theorem table_big (a g : U8) (rr : List RcR) (rv : Value) (most : Nat) (w : World) (hr : RdRc w rv rr) (hm : most < rr.length) :
    Calls Try.prog 23 #[.agg #[.int .u8 (a.toNat : Int), .int .u8 (g.toNat : Int), rv], .int .i64 (most : Int)] w fun e w' => e = .returned (.tuple #[.agg #[.string (ByteArray.mk #[]), .slice none 0 0, .slice none 0 0], .bool false]) ∧ Below w.heap.size w w' := by
  have TC := hid (fun W h => two_cells w (.int .u8 (a.toNat : Int)) (.int .u8 (g.toNat : Int)) rv 50 25 W h)
  generalize (a.toNat : Int) = ai at *
  generalize (g.toNat : Int) = gi at *
  have hb00 := below_alloc w (.cells #[.int .u8 ai, .int .u8 gi, rv] 50)
  have hb01 := below_alloc (w.alloc (.cells #[.int .u8 ai, .int .u8 gi, rv] 50)) (.cells #[.string (ByteArray.mk #[]), .slice none 0 0, .slice none 0 0] 25)
  have hb0 := hb00.trans (hb01.mono hb00.size)
  have RR := hid (hr.below hb0)
  obtain ⟨w0, hw0⟩ : ∃ w0 : World, (w.alloc (.cells #[.int .u8 ai, .int .u8 gi, rv] 50)).alloc (.cells #[.string (ByteArray.mk #[]), .slice none 0 0, .slice none 0 0] 25) = w0 := ⟨_, rfl⟩
  rw [hw0] at hb0 RR TC
  have B0 := hid hb0
  have W0 := hid hw0
  obtain ⟨ro, rcap, hv, hrl, hrc⟩ := RR.out.split
  subst hv
  have hlm : ((rr.length : Int) > (most : Int)) := by omega
  obtain ⟨⟨q0, q1, q2⟩, ⟨z0, z1, z2⟩, zf⟩ := TC.out _ (Below.refl _ _)
  have zf0 := zf 0
  have zf1 := zf 1
  have zf2 := zf 2
  clear hb0 hw0 hb00 hb01 hrc hr hm zf
  go_enter Try.func23, Try.ntmps23
  go_wp2_with fail
  rw [W0.out]
  go_wp2_with fail
  exact bodyPost_ret (v := .tuple #[.agg #[.string (ByteArray.mk #[]), .slice none 0 0, .slice none 0 0], .bool false]) (by simp [results, Try.results23, go_sem, z0, z1, z2]) rfl ⟨rfl, B0.out⟩

end Go.Proofs.Ytkehelplmipenaa
