/- The walk of derivation.right, where the step is right (gender5.py prints this). -/
import Derived.Test.YtcfcmalaabmceaaDoorGDer
namespace Go.Proofs.YtcfcmalaabmceaaDoor
open Go.RowKit
set_option linter.unusedVariables false
set_option linter.unusedSimpArgs false

/-- The cells that right has laid: the boxes of steps and i, the step, its conclusion. -/
structure RgtC (W : World) (b : Nat) (sv : Value) (i : Nat) (s : St3) : Prop where
  pa : W.cell? ⟨b, 0, none⟩ = some sv
  pb : W.cell? ⟨b + 1, 0, none⟩ = some (.int .i64 (i : Int))
  pc : W.cell? ⟨b + 2, 0, none⟩ = some (.int .i64 s.1) ∧ W.cell? ⟨b + 2, 1, none⟩ = some s.2.1 ∧ W.cell? ⟨b + 2, 2, none⟩ = some (.int .u32 (iv s.2.2.2.1)) ∧ W.cell? ⟨b + 2, 3, none⟩ = some (.int .u32 (iv s.2.2.2.2))
  pd : W.cell? ⟨b + 3, 0, none⟩ = some (.int .u32 (iv s.2.2.2.1)) ∧ W.cell? ⟨b + 3, 1, none⟩ = some (.int .u32 (iv s.2.2.2.2))
theorem RgtC.below {W W' : World} {b i : Nat} {sv : Value} {s : St3} (h : RgtC W b sv i s) (hb : Below W.heap.size W W') : RgtC W' b sv i s := by
  have k : ∀ {p q : Nat} {v : Value}, W.cell? ⟨p, q, none⟩ = some v → W'.cell? ⟨p, q, none⟩ = some v := fun h => (hb.cell (p := ⟨_, _, none⟩) (World.block_lt_of_cell? _ _ h)).trans h
  exact ⟨k h.pa, k h.pb, ⟨k h.pc.1, k h.pc.2.1, k h.pc.2.2.1, k h.pc.2.2.2⟩, k h.pd.1, k h.pd.2⟩
theorem cells4D {w : World} {a b c d : Value} {t : TypeId} : ∀ W, Below (w.alloc (.cells #[a, b, c, d] t)).heap.size (w.alloc (.cells #[a, b, c, d] t)) W → W.cell? ⟨w.heap.size, 0, none⟩ = some a ∧ W.cell? ⟨w.heap.size, 1, none⟩ = some b ∧ W.cell? ⟨w.heap.size, 2, none⟩ = some c ∧ W.cell? ⟨w.heap.size, 3, none⟩ = some d := by
  intro W h
  have k : ∀ {q : Nat} {v : Value}, (w.alloc (.cells #[a, b, c, d] t)).cell? ⟨w.heap.size, q, none⟩ = some v → W.cell? ⟨w.heap.size, q, none⟩ = some v := fun e => (h.cell (p := ⟨_, _, none⟩) (World.block_lt_of_cell? _ _ e)).trans e
  exact ⟨k (by simp), k (by simp), k (by simp), k (by simp)⟩
attribute [local irreducible] Go.wpQuiet
set_option maxHeartbeats 1600000 in
set_option maxRecDepth 100000 in
theorem dright1_any (m : Nat) (fs : List F) (sts : List St3) (v sv : Value) (i : Nat) (s : St3) (w : World) (hm : m ≤ 16) (hv : RdF w v fs) (hs : RdC cS w sv sts) (hi : sts[i]? = some s) (hrl : s.1 = 1) (hr : rightD m fs (sts.map toS) i (toS s) = true) (hfv : RdE encI w s.2.1 s.2.2.1) :
    Calls Tryd.prog 38 #[.int .i64 (m : Int), v, sv, .int .i64 (i : Int)] w fun e w' => e = .returned (.bool true) ∧ Below w.heap.size w w' := by
  obtain ⟨rl, fv, l, x, y⟩ := s
  simp only at hrl hfv
  have R : rightD m fs (sts.map toS) i ((rl, l, (x, y)) : Stp) = true := hr
  subst hrl
  have hil := (List.getElem?_eq_some_iff.1 hi).1
  unfold rightD at R
  simp only [ if_false, if_true, Bool.and_eq_true] at R
  obtain ⟨r1, R⟩ := R
  have SB1 := hid (show subB (x ||| y) (1#32 <<< m - 1#32) = true by rw [shl_fullD (by omega)]; exact r1)
  obtain ⟨k, f, hl, hfk, hfd⟩ : ∃ k f, l = [k] ∧ fs[k]? = some f ∧ f = (x, y) := by
    unfold givD at R
    split at R
    · rename_i q k
      cases hf : fs[k]? with
      | none => rw [hf] at R; cases R
      | some f => rw [hf] at R; exact ⟨k, f, rfl, hf, by simpa using R⟩
    · cases R
  obtain ⟨fao, fcap, hfe, hfcells⟩ : ∃ fao fcap, fv = .slice fao 1 fcap ∧ ∃ b off, fao = some ⟨b, off, none⟩ ∧ ∀ W, Below w.heap.size w W → W.cell? ⟨b, off, none⟩ = some (.int .i64 (k : Int)) := by
    rw [hl] at hfv
    obtain ⟨a, c, h1, -, h3⟩ := hfv.split
    obtain ⟨b, off, h4, h5⟩ := h3 0 k rfl
    exact ⟨a, c, h1, b, off, h4, fun W hW => by simpa [encI] using h5 W hW⟩
  obtain ⟨fb, foff, rfl, hfc⟩ := hfcells
  subst hfe
  have FC := hid hfc
  have k0 : (0 : Int) ≤ (k : Int) := by omega
  have kl : (k : Int) < (fs.length : Int) := by have := (List.getElem?_eq_some_iff.1 hfk).1; omega
  have k1 : decide ((k : Int) ≥ 0) = true := by rw [decide_eq_true_iff]; omega
  subst hfd
  have HFK := hid hfk
  clear hfk hl hfc
  have HSV := hid hs
  obtain ⟨so, scap, rfl, hsl, hc⟩ := RdSt.split hs
  obtain ⟨sb, soff, rfl, hd⟩ := hc i _ hi
  have HM := hid hm
  have i0 : (0 : Int) ≤ (i : Int) := by omega
  have il : (i : Int) < (sts.length : Int) := by omega
  have IL := hid hil
  obtain ⟨w1, hw1⟩ : ∃ w1 : World, (w.alloc (.cells #[.slice (some ⟨sb, soff, none⟩) sts.length scap] 37)).alloc (.cells #[.int .i64 (i : Int)] 3) = w1 := ⟨_, rfl⟩
  have W1 := hid hw1
  have B1 := hid (show Below w.heap.size w w1 by rw [← hw1]; exact (below_alloc w _).trans ((below_alloc _ _).mono (by simp)))
  have Z1 := hid (show w1.heap.size = w.heap.size + 2 by rw [← hw1]; simp)
  have a0 : w1.cell? ⟨w.heap.size, 0, none⟩ = some (.slice (some ⟨sb, soff, none⟩) sts.length scap) := by rw [← hw1]; rw [World.cell?_alloc_lt _ _ _ (by simp)]; simp
  have a1 : w1.cell? ⟨w.heap.size + 1, 0, none⟩ = some (.int .i64 (i : Int)) := by rw [← hw1, show w.heap.size + 1 = (w.alloc (.cells #[.slice (some ⟨sb, soff, none⟩) sts.length scap] 37)).heap.size by simp]; simp
  obtain ⟨e0, e1, e2, e3⟩ := hd w1 B1.out
  try simp only at e0 e1 e2 e3
  obtain ⟨w2, hw2⟩ : ∃ w2 : World, w1.alloc (.cells #[.int .i64 1, (.slice (some ⟨fb, foff, none⟩) 1 fcap), .int .u32 (iv x), .int .u32 (iv y)] 72) = w2 := ⟨_, rfl⟩
  have W2 := hid hw2
  have B2 := hid (show Below w1.heap.size w1 w2 by rw [← hw2]; exact below_alloc w1 _)
  have Z2 := hid (show w2.heap.size = w.heap.size + 3 by rw [← hw2]; simp [Z1.out])
  have CC := hid (show w2.cell? ⟨w.heap.size + 2, 0, none⟩ = some (.int .i64 1) ∧ w2.cell? ⟨w.heap.size + 2, 1, none⟩ = some (.slice (some ⟨fb, foff, none⟩) 1 fcap) ∧ w2.cell? ⟨w.heap.size + 2, 2, none⟩ = some (.int .u32 (iv x)) ∧ w2.cell? ⟨w.heap.size + 2, 3, none⟩ = some (.int .u32 (iv y)) by
    have h := cells4D (w := w1) (a := .int .i64 1) (b := (.slice (some ⟨fb, foff, none⟩) 1 fcap)) (c := .int .u32 (iv x)) (d := .int .u32 (iv y)) (t := 72) _ (Below.refl _ _)
    rw [hw2, Z1.out] at h
    exact h)
  obtain ⟨w3, hw3⟩ : ∃ w3 : World, w2.alloc (.cells #[.int .u32 (iv x), .int .u32 (iv y)] 34) = w3 := ⟨_, rfl⟩
  have W3 := hid hw3
  have B3 := hid (show Below w2.heap.size w2 w3 by rw [← hw3]; exact below_alloc w2 _)
  have DD := hid (show w3.cell? ⟨w.heap.size + 3, 0, none⟩ = some (.int .u32 (iv x)) ∧ w3.cell? ⟨w.heap.size + 3, 1, none⟩ = some (.int .u32 (iv y)) by
    have h := cells2 (w := w2) (a := .int .u32 (iv x)) (b := .int .u32 (iv y)) (t := 34) _ (Below.refl _ _)
    rw [hw3, Z2.out] at h
    exact h)
  have RC := hid (show RgtC w3 w.heap.size (.slice (some ⟨sb, soff, none⟩) sts.length scap) i (1, (.slice (some ⟨fb, foff, none⟩) 1 fcap), l, (x, y)) from by
    have k1 : ∀ {p q : Nat} {v : Value}, w1.cell? ⟨p, q, none⟩ = some v → w2.cell? ⟨p, q, none⟩ = some v := fun h => (B2.out.cell (p := ⟨_, _, none⟩) (World.block_lt_of_cell? _ _ h)).trans h
    have k2 : ∀ {p q : Nat} {v : Value}, w2.cell? ⟨p, q, none⟩ = some v → w3.cell? ⟨p, q, none⟩ = some v := fun h => (B3.out.cell (p := ⟨_, _, none⟩) (World.block_lt_of_cell? _ _ h)).trans h
    refine ⟨k2 (k1 a0), k2 (k1 a1), ?_, DD.out⟩
    exact ⟨k2 CC.out.1, k2 CC.out.2.1, k2 CC.out.2.2.1, k2 CC.out.2.2.2⟩)
  have D3 := hid (show Below w.heap.size w w3 from B1.out.trans ((B2.out.trans (B3.out.mono B2.out.size)).mono B1.out.size))
  have HV := hid hv
  obtain ⟨fo, fcp, rfl, -⟩ := hv
  clear hr r1 hc hd hs hsl hi hil hm hw1 hw2 hw3 hfv
  try clear R
  go_enter Tryd.func38, Tryd.ntmps38
  go_upto_region 1 with fail
  rw [W1.out]
  go_upto_region 2 with fail
  rw [W2.out]
  clear e0 e1 e2 e3 a0 a1
  obtain ⟨c0, c1, c2, c3⟩ := CC.out
  try rw [Z1.out]
  go_upto_region 3 with fail
  rw [W3.out]
  clear c0 c1 c2 c3
  try rw [Z2.out]
  obtain ⟨d0, d1⟩ := RC.out.pd
  have DU := hid (fun i : After w3 => Calls.after_same i (duniv_any m (by have := HM.out; omega) i.world))
  have DS := hid (fun i : After w3 => show Calls Tryd.prog 19 #[.int .u32 (iv (x ||| y)), .int .u32 (iv (1#32 <<< m - 1#32))] i.world fun e w' => e = .returned (.bool true) ∧ ∃ j : After w3, w' = j.world from by
    have h := Calls.after_same i (dsub_any (x ||| y) (1#32 <<< m - 1#32) i.world)
    rw [SB1.out] at h
    exact h)
  have f0 : ∀ i : After w3, i.world.cell? ⟨w.heap.size + 3, 0, none⟩ = some (.int .u32 (iv x)) := fun i => After.cell d0 i
  have f1 : ∀ i : After w3, i.world.cell? ⟨w.heap.size + 3, 1, none⟩ = some (.int .u32 (iv y)) := fun i => After.cell d1 i
  have m0 : (0 : Int) ≤ (m : Int) := by omega
  have m1 : (m : Int) ≤ 16 := by have := HM.out; omega
  clear d0 d1
  refine wp_region_after (by kernel_rfl) (by kernel_rfl) ?_
  repeat (any_goals (quiet_step (first | with_reducible exact DU.out _ | with_reducible exact DS.out _)))
  refine wpQuiet_nil ?_
  intro wq hq
  have DQ := hid (D3.out.trans (hq.mono D3.out.size))
  have RQ := hid (RC.out.below hq)
  obtain ⟨q0, q1⟩ := And.intro RQ.out.pa RQ.out.pb
  obtain ⟨c0, c1, c2, c3⟩ := RQ.out.pc
  try simp only at c0 c1 c2 c3
  obtain ⟨d0, d1⟩ := RQ.out.pd
  clear hq f0 f1
  obtain ⟨go, gcp, hge, -, hgc⟩ := RdF.split HV.out
  simp only [Value.slice.injEq, true_and] at hge
  obtain ⟨rfl, rfl⟩ := hge
  obtain ⟨gb, goff, rfl, hgd⟩ := hgc k _ HFK.out
  obtain ⟨g0, g1⟩ := hgd wq DQ.out
  have x0 := FC.out wq DQ.out
  clear hgc hgd
  go_wp2_with fail
  go_quiet (fail)
  go_wp2_with fail
  go_ret
  exact ⟨by first | rfl | simp, below_drewN' DQ.out _⟩
set_option maxHeartbeats 1600000 in
set_option maxRecDepth 100000 in
theorem dright2_any (m : Nat) (fs : List F) (sts : List St3) (v sv : Value) (i : Nat) (s : St3) (w : World) (hm : m ≤ 16) (hv : RdF w v fs) (hs : RdC cS w sv sts) (hi : sts[i]? = some s) (hrl : s.1 = 2) (hr : rightD m fs (sts.map toS) i (toS s) = true) (hfv : RdE encI w s.2.1 s.2.2.1) :
    Calls Tryd.prog 38 #[.int .i64 (m : Int), v, sv, .int .i64 (i : Int)] w fun e w' => e = .returned (.bool true) ∧ Below w.heap.size w w' := by
  obtain ⟨rl, fv, l, x, y⟩ := s
  simp only at hrl hfv
  have R : rightD m fs (sts.map toS) i ((rl, l, (x, y)) : Stp) = true := hr
  subst hrl
  have hil := (List.getElem?_eq_some_iff.1 hi).1
  unfold rightD at R
  simp only [show ((2 : Int) = 1) = False by simp, if_false, if_true, Bool.and_eq_true] at R
  obtain ⟨r1, R⟩ := R
  have SB1 := hid (show subB (x ||| y) (1#32 <<< m - 1#32) = true by rw [shl_fullD (by omega)]; exact r1)
  rw [List.isEmpty_iff] at R
  obtain ⟨hl, r3⟩ := R
  have SB2 := hid r3
  obtain ⟨fao, fcap, hfe⟩ : ∃ fao fcap, fv = .slice fao 0 fcap := by
    rw [hl] at hfv
    obtain ⟨a, c, h1, -⟩ := hfv.split
    exact ⟨a, c, h1⟩
  subst hfe
  clear hl r3
  have HSV := hid hs
  obtain ⟨so, scap, rfl, hsl, hc⟩ := RdSt.split hs
  obtain ⟨sb, soff, rfl, hd⟩ := hc i _ hi
  have HM := hid hm
  have i0 : (0 : Int) ≤ (i : Int) := by omega
  have il : (i : Int) < (sts.length : Int) := by omega
  have IL := hid hil
  obtain ⟨w1, hw1⟩ : ∃ w1 : World, (w.alloc (.cells #[.slice (some ⟨sb, soff, none⟩) sts.length scap] 37)).alloc (.cells #[.int .i64 (i : Int)] 3) = w1 := ⟨_, rfl⟩
  have W1 := hid hw1
  have B1 := hid (show Below w.heap.size w w1 by rw [← hw1]; exact (below_alloc w _).trans ((below_alloc _ _).mono (by simp)))
  have Z1 := hid (show w1.heap.size = w.heap.size + 2 by rw [← hw1]; simp)
  have a0 : w1.cell? ⟨w.heap.size, 0, none⟩ = some (.slice (some ⟨sb, soff, none⟩) sts.length scap) := by rw [← hw1]; rw [World.cell?_alloc_lt _ _ _ (by simp)]; simp
  have a1 : w1.cell? ⟨w.heap.size + 1, 0, none⟩ = some (.int .i64 (i : Int)) := by rw [← hw1, show w.heap.size + 1 = (w.alloc (.cells #[.slice (some ⟨sb, soff, none⟩) sts.length scap] 37)).heap.size by simp]; simp
  obtain ⟨e0, e1, e2, e3⟩ := hd w1 B1.out
  try simp only at e0 e1 e2 e3
  obtain ⟨w2, hw2⟩ : ∃ w2 : World, w1.alloc (.cells #[.int .i64 2, (.slice fao 0 fcap), .int .u32 (iv x), .int .u32 (iv y)] 72) = w2 := ⟨_, rfl⟩
  have W2 := hid hw2
  have B2 := hid (show Below w1.heap.size w1 w2 by rw [← hw2]; exact below_alloc w1 _)
  have Z2 := hid (show w2.heap.size = w.heap.size + 3 by rw [← hw2]; simp [Z1.out])
  have CC := hid (show w2.cell? ⟨w.heap.size + 2, 0, none⟩ = some (.int .i64 2) ∧ w2.cell? ⟨w.heap.size + 2, 1, none⟩ = some (.slice fao 0 fcap) ∧ w2.cell? ⟨w.heap.size + 2, 2, none⟩ = some (.int .u32 (iv x)) ∧ w2.cell? ⟨w.heap.size + 2, 3, none⟩ = some (.int .u32 (iv y)) by
    have h := cells4D (w := w1) (a := .int .i64 2) (b := (.slice fao 0 fcap)) (c := .int .u32 (iv x)) (d := .int .u32 (iv y)) (t := 72) _ (Below.refl _ _)
    rw [hw2, Z1.out] at h
    exact h)
  obtain ⟨w3, hw3⟩ : ∃ w3 : World, w2.alloc (.cells #[.int .u32 (iv x), .int .u32 (iv y)] 34) = w3 := ⟨_, rfl⟩
  have W3 := hid hw3
  have B3 := hid (show Below w2.heap.size w2 w3 by rw [← hw3]; exact below_alloc w2 _)
  have DD := hid (show w3.cell? ⟨w.heap.size + 3, 0, none⟩ = some (.int .u32 (iv x)) ∧ w3.cell? ⟨w.heap.size + 3, 1, none⟩ = some (.int .u32 (iv y)) by
    have h := cells2 (w := w2) (a := .int .u32 (iv x)) (b := .int .u32 (iv y)) (t := 34) _ (Below.refl _ _)
    rw [hw3, Z2.out] at h
    exact h)
  have RC := hid (show RgtC w3 w.heap.size (.slice (some ⟨sb, soff, none⟩) sts.length scap) i (2, (.slice fao 0 fcap), l, (x, y)) from by
    have k1 : ∀ {p q : Nat} {v : Value}, w1.cell? ⟨p, q, none⟩ = some v → w2.cell? ⟨p, q, none⟩ = some v := fun h => (B2.out.cell (p := ⟨_, _, none⟩) (World.block_lt_of_cell? _ _ h)).trans h
    have k2 : ∀ {p q : Nat} {v : Value}, w2.cell? ⟨p, q, none⟩ = some v → w3.cell? ⟨p, q, none⟩ = some v := fun h => (B3.out.cell (p := ⟨_, _, none⟩) (World.block_lt_of_cell? _ _ h)).trans h
    refine ⟨k2 (k1 a0), k2 (k1 a1), ?_, DD.out⟩
    exact ⟨k2 CC.out.1, k2 CC.out.2.1, k2 CC.out.2.2.1, k2 CC.out.2.2.2⟩)
  have D3 := hid (show Below w.heap.size w w3 from B1.out.trans ((B2.out.trans (B3.out.mono B2.out.size)).mono B1.out.size))
  have HV := hid hv
  obtain ⟨fo, fcp, rfl, -⟩ := hv
  clear hr r1 hc hd hs hsl hi hil hm hw1 hw2 hw3 hfv
  try clear R
  go_enter Tryd.func38, Tryd.ntmps38
  go_upto_region 1 with fail
  rw [W1.out]
  go_upto_region 2 with fail
  rw [W2.out]
  clear e0 e1 e2 e3 a0 a1
  obtain ⟨c0, c1, c2, c3⟩ := CC.out
  try rw [Z1.out]
  go_upto_region 3 with fail
  rw [W3.out]
  clear c0 c1 c2 c3
  try rw [Z2.out]
  obtain ⟨d0, d1⟩ := RC.out.pd
  have DU := hid (fun i : After w3 => Calls.after_same i (duniv_any m (by have := HM.out; omega) i.world))
  have DS := hid (fun i : After w3 => show Calls Tryd.prog 19 #[.int .u32 (iv (x ||| y)), .int .u32 (iv (1#32 <<< m - 1#32))] i.world fun e w' => e = .returned (.bool true) ∧ ∃ j : After w3, w' = j.world from by
    have h := Calls.after_same i (dsub_any (x ||| y) (1#32 <<< m - 1#32) i.world)
    rw [SB1.out] at h
    exact h)
  have f0 : ∀ i : After w3, i.world.cell? ⟨w.heap.size + 3, 0, none⟩ = some (.int .u32 (iv x)) := fun i => After.cell d0 i
  have f1 : ∀ i : After w3, i.world.cell? ⟨w.heap.size + 3, 1, none⟩ = some (.int .u32 (iv y)) := fun i => After.cell d1 i
  have m0 : (0 : Int) ≤ (m : Int) := by omega
  have m1 : (m : Int) ≤ 16 := by have := HM.out; omega
  clear d0 d1
  refine wp_region_after (by kernel_rfl) (by kernel_rfl) ?_
  repeat (any_goals (quiet_step (first | with_reducible exact DU.out _ | with_reducible exact DS.out _)))
  refine wpQuiet_nil ?_
  intro wq hq
  have DQ := hid (D3.out.trans (hq.mono D3.out.size))
  have RQ := hid (RC.out.below hq)
  obtain ⟨q0, q1⟩ := And.intro RQ.out.pa RQ.out.pb
  obtain ⟨c0, c1, c2, c3⟩ := RQ.out.pc
  try simp only at c0 c1 c2 c3
  obtain ⟨d0, d1⟩ := RQ.out.pd
  clear hq f0 f1
  have DS2 := hid (show Calls Tryd.prog 19 #[.int .u32 (iv y), .int .u32 (iv x)] wq fun e w' => e = .returned (.bool true) ∧ wq = w' from by
    have h := dsub_any y x wq
    rw [SB2.out] at h
    exact h)
  go_wp2_with fail
  refine DS2.out.mono ?_
  rintro e w5 ⟨rfl, rfl⟩
  go_wp2_with fail
  go_ret
  exact ⟨rfl, DQ.out⟩
set_option maxHeartbeats 1600000 in
set_option maxRecDepth 100000 in
theorem dright3_any (m : Nat) (fs : List F) (sts : List St3) (v sv : Value) (i : Nat) (s : St3) (w : World) (hm : m ≤ 16) (hv : RdF w v fs) (hs : RdC cS w sv sts) (hi : sts[i]? = some s) (hrl : s.1 = 3) (hr : rightD m fs (sts.map toS) i (toS s) = true) (hfv : RdE encI w s.2.1 s.2.2.1) :
    Calls Tryd.prog 38 #[.int .i64 (m : Int), v, sv, .int .i64 (i : Int)] w fun e w' => e = .returned (.bool true) ∧ Below w.heap.size w w' := by
  obtain ⟨rl, fv, l, x, y⟩ := s
  simp only at hrl hfv
  have R : rightD m fs (sts.map toS) i ((rl, l, (x, y)) : Stp) = true := hr
  subst hrl
  have hil := (List.getElem?_eq_some_iff.1 hi).1
  unfold rightD at R
  simp only [show ((3 : Int) = 1) = False by simp, show ((3 : Int) = 2) = False by simp, if_false, if_true, Bool.and_eq_true] at R
  obtain ⟨r1, R⟩ := R
  have SB1 := hid (show subB (x ||| y) (1#32 <<< m - 1#32) = true by rw [shl_fullD (by omega)]; exact r1)
  obtain ⟨k, f, hl, hE, h1, h2, h3, h4⟩ : ∃ k f, l = [k] ∧ earD (sts.map toS) i k = some f ∧ subB f.1 x = true ∧ subB f.2 y = true ∧ subB (x &&& ~~~ f.1) y = true ∧ subB (y &&& ~~~ f.2) x = true := by
    unfold augD at R
    split at R
    · rename_i q k
      cases hf : earD (sts.map toS) i k with
      | none => rw [hf] at R; cases R
      | some f => rw [hf] at R; simp only [Bool.and_eq_true] at R; exact ⟨k, f, rfl, hf, R.1.1.1, R.1.1.2, R.1.2, R.2⟩
    · cases R
  obtain ⟨fao, fcap, hfe, hfcells⟩ : ∃ fao fcap, fv = .slice fao 1 fcap ∧ ∃ b off, fao = some ⟨b, off, none⟩ ∧ ∀ W, Below w.heap.size w W → W.cell? ⟨b, off, none⟩ = some (.int .i64 (k : Int)) := by
    rw [hl] at hfv
    obtain ⟨a, c, h1, -, h3⟩ := hfv.split
    obtain ⟨b, off, h4, h5⟩ := h3 0 k rfl
    exact ⟨a, c, h1, b, off, h4, fun W hW => by simpa [encI] using h5 W hW⟩
  obtain ⟨fb, foff, rfl, hfc⟩ := hfcells
  subst hfe
  have FC := hid hfc
  have k0 : (0 : Int) ≤ (k : Int) := by omega
  have HS4 := hid (And.intro h1 (And.intro h2 (And.intro h3 h4)))
  have HE := hid hE
  clear hl hfc hE h1 h2 h3 h4
  have HSV := hid hs
  obtain ⟨so, scap, rfl, hsl, hc⟩ := RdSt.split hs
  obtain ⟨sb, soff, rfl, hd⟩ := hc i _ hi
  have HM := hid hm
  have i0 : (0 : Int) ≤ (i : Int) := by omega
  have il : (i : Int) < (sts.length : Int) := by omega
  have IL := hid hil
  obtain ⟨w1, hw1⟩ : ∃ w1 : World, (w.alloc (.cells #[.slice (some ⟨sb, soff, none⟩) sts.length scap] 37)).alloc (.cells #[.int .i64 (i : Int)] 3) = w1 := ⟨_, rfl⟩
  have W1 := hid hw1
  have B1 := hid (show Below w.heap.size w w1 by rw [← hw1]; exact (below_alloc w _).trans ((below_alloc _ _).mono (by simp)))
  have Z1 := hid (show w1.heap.size = w.heap.size + 2 by rw [← hw1]; simp)
  have a0 : w1.cell? ⟨w.heap.size, 0, none⟩ = some (.slice (some ⟨sb, soff, none⟩) sts.length scap) := by rw [← hw1]; rw [World.cell?_alloc_lt _ _ _ (by simp)]; simp
  have a1 : w1.cell? ⟨w.heap.size + 1, 0, none⟩ = some (.int .i64 (i : Int)) := by rw [← hw1, show w.heap.size + 1 = (w.alloc (.cells #[.slice (some ⟨sb, soff, none⟩) sts.length scap] 37)).heap.size by simp]; simp
  obtain ⟨e0, e1, e2, e3⟩ := hd w1 B1.out
  try simp only at e0 e1 e2 e3
  obtain ⟨w2, hw2⟩ : ∃ w2 : World, w1.alloc (.cells #[.int .i64 3, (.slice (some ⟨fb, foff, none⟩) 1 fcap), .int .u32 (iv x), .int .u32 (iv y)] 72) = w2 := ⟨_, rfl⟩
  have W2 := hid hw2
  have B2 := hid (show Below w1.heap.size w1 w2 by rw [← hw2]; exact below_alloc w1 _)
  have Z2 := hid (show w2.heap.size = w.heap.size + 3 by rw [← hw2]; simp [Z1.out])
  have CC := hid (show w2.cell? ⟨w.heap.size + 2, 0, none⟩ = some (.int .i64 3) ∧ w2.cell? ⟨w.heap.size + 2, 1, none⟩ = some (.slice (some ⟨fb, foff, none⟩) 1 fcap) ∧ w2.cell? ⟨w.heap.size + 2, 2, none⟩ = some (.int .u32 (iv x)) ∧ w2.cell? ⟨w.heap.size + 2, 3, none⟩ = some (.int .u32 (iv y)) by
    have h := cells4D (w := w1) (a := .int .i64 3) (b := (.slice (some ⟨fb, foff, none⟩) 1 fcap)) (c := .int .u32 (iv x)) (d := .int .u32 (iv y)) (t := 72) _ (Below.refl _ _)
    rw [hw2, Z1.out] at h
    exact h)
  obtain ⟨w3, hw3⟩ : ∃ w3 : World, w2.alloc (.cells #[.int .u32 (iv x), .int .u32 (iv y)] 34) = w3 := ⟨_, rfl⟩
  have W3 := hid hw3
  have B3 := hid (show Below w2.heap.size w2 w3 by rw [← hw3]; exact below_alloc w2 _)
  have DD := hid (show w3.cell? ⟨w.heap.size + 3, 0, none⟩ = some (.int .u32 (iv x)) ∧ w3.cell? ⟨w.heap.size + 3, 1, none⟩ = some (.int .u32 (iv y)) by
    have h := cells2 (w := w2) (a := .int .u32 (iv x)) (b := .int .u32 (iv y)) (t := 34) _ (Below.refl _ _)
    rw [hw3, Z2.out] at h
    exact h)
  have RC := hid (show RgtC w3 w.heap.size (.slice (some ⟨sb, soff, none⟩) sts.length scap) i (3, (.slice (some ⟨fb, foff, none⟩) 1 fcap), l, (x, y)) from by
    have k1 : ∀ {p q : Nat} {v : Value}, w1.cell? ⟨p, q, none⟩ = some v → w2.cell? ⟨p, q, none⟩ = some v := fun h => (B2.out.cell (p := ⟨_, _, none⟩) (World.block_lt_of_cell? _ _ h)).trans h
    have k2 : ∀ {p q : Nat} {v : Value}, w2.cell? ⟨p, q, none⟩ = some v → w3.cell? ⟨p, q, none⟩ = some v := fun h => (B3.out.cell (p := ⟨_, _, none⟩) (World.block_lt_of_cell? _ _ h)).trans h
    refine ⟨k2 (k1 a0), k2 (k1 a1), ?_, DD.out⟩
    exact ⟨k2 CC.out.1, k2 CC.out.2.1, k2 CC.out.2.2.1, k2 CC.out.2.2.2⟩)
  have D3 := hid (show Below w.heap.size w w3 from B1.out.trans ((B2.out.trans (B3.out.mono B2.out.size)).mono B1.out.size))
  have HV := hid hv
  obtain ⟨fo, fcp, rfl, -⟩ := hv
  clear hr r1 hc hd hs hsl hi hil hm hw1 hw2 hw3 hfv
  try clear R
  go_enter Tryd.func38, Tryd.ntmps38
  go_upto_region 1 with fail
  rw [W1.out]
  go_upto_region 2 with fail
  rw [W2.out]
  clear e0 e1 e2 e3 a0 a1
  obtain ⟨c0, c1, c2, c3⟩ := CC.out
  try rw [Z1.out]
  go_upto_region 3 with fail
  rw [W3.out]
  clear c0 c1 c2 c3
  try rw [Z2.out]
  obtain ⟨d0, d1⟩ := RC.out.pd
  have DU := hid (fun i : After w3 => Calls.after_same i (duniv_any m (by have := HM.out; omega) i.world))
  have DS := hid (fun i : After w3 => show Calls Tryd.prog 19 #[.int .u32 (iv (x ||| y)), .int .u32 (iv (1#32 <<< m - 1#32))] i.world fun e w' => e = .returned (.bool true) ∧ ∃ j : After w3, w' = j.world from by
    have h := Calls.after_same i (dsub_any (x ||| y) (1#32 <<< m - 1#32) i.world)
    rw [SB1.out] at h
    exact h)
  have f0 : ∀ i : After w3, i.world.cell? ⟨w.heap.size + 3, 0, none⟩ = some (.int .u32 (iv x)) := fun i => After.cell d0 i
  have f1 : ∀ i : After w3, i.world.cell? ⟨w.heap.size + 3, 1, none⟩ = some (.int .u32 (iv y)) := fun i => After.cell d1 i
  have m0 : (0 : Int) ≤ (m : Int) := by omega
  have m1 : (m : Int) ≤ 16 := by have := HM.out; omega
  clear d0 d1
  refine wp_region_after (by kernel_rfl) (by kernel_rfl) ?_
  repeat (any_goals (quiet_step (first | with_reducible exact DU.out _ | with_reducible exact DS.out _)))
  refine wpQuiet_nil ?_
  intro wq hq
  have DQ := hid (D3.out.trans (hq.mono D3.out.size))
  have RQ := hid (RC.out.below hq)
  obtain ⟨q0, q1⟩ := And.intro RQ.out.pa RQ.out.pb
  obtain ⟨c0, c1, c2, c3⟩ := RQ.out.pc
  try simp only at c0 c1 c2 c3
  obtain ⟨d0, d1⟩ := RQ.out.pd
  clear hq f0 f1
  have DE := hid (dear_any sts (.slice (some ⟨sb, soff, none⟩) sts.length scap) i k (w.heap.size + 1) w.heap.size wq (RdC.below HSV.out DQ.out) q1 q0 (Nat.le_of_lt IL.out))
  rw [HE.out] at DE
  have x0 := FC.out wq DQ.out
  go_wp2_with fail
  refine DE.out.mono ?_
  rintro e w5 ⟨rfl, hb5⟩
  have D5 := hid (DQ.out.trans (hb5.mono DQ.out.size))
  have R5 := hid (RQ.out.below hb5)
  clear hb5 q0 q1 c0 c1 c2 c3 d0 d1 x0
  have B6 := hid (below_alloc w5 (.cells #[.int .u32 (iv f.1), .int .u32 (iv f.2)] 34))
  have F2 := hid (fun (W : World) h => cells2 (w := w5) (a := .int .u32 (iv f.1)) (b := .int .u32 (iv f.2)) (t := 34) W h)
  obtain ⟨w6, hw6⟩ : ∃ w6 : World, w5.alloc (.cells #[.int .u32 (iv f.1), .int .u32 (iv f.2)] 34) = w6 := ⟨_, rfl⟩
  rw [hw6] at B6 F2
  have W6 := hid hw6
  have D6 := hid (D5.out.trans (B6.out.mono D5.out.size))
  have R6 := hid (R5.out.below B6.out)
  clear hw6
  go_upto_region 15 with fail
  rw [W6.out]
  obtain ⟨y0, y1⟩ := F2.out _ (Below.refl _ _)
  obtain ⟨d0, d1⟩ := R6.out.pd
  have sb6 : ∀ a b : S, subB a b = true → Calls Tryd.prog 19 #[.int .u32 (iv a), .int .u32 (iv b)] w6 fun e w' => e = .returned (.bool true) ∧ w6 = w' := fun a b hab => by
    have h := dsub_any a b w6
    rw [hab] at h
    exact h
  have S1 := hid (sb6 f.1 x HS4.out.1)
  have S2 := hid (sb6 f.2 y HS4.out.2.1)
  have S3 := hid (sb6 (x &&& ~~~ f.1) y HS4.out.2.2.1)
  have S4 := hid (sb6 (y &&& ~~~ f.2) x HS4.out.2.2.2)
  clear sb6
  go_wp2_with fail
  refine S1.out.mono ?_
  rintro e w' ⟨rfl, rfl⟩
  go_wp2_with fail
  refine S2.out.mono ?_
  rintro e w' ⟨rfl, rfl⟩
  go_wp2_with fail
  refine S3.out.mono ?_
  rintro e w' ⟨rfl, rfl⟩
  go_wp2_with fail
  refine S4.out.mono ?_
  rintro e w' ⟨rfl, rfl⟩
  have DZ := hid D6.out
  go_wp2_with fail
  go_ret
  exact ⟨rfl, DZ.out⟩
set_option maxHeartbeats 1600000 in
set_option maxRecDepth 100000 in
theorem dright4_any (m : Nat) (fs : List F) (sts : List St3) (v sv : Value) (i : Nat) (s : St3) (w : World) (hm : m ≤ 16) (hv : RdF w v fs) (hs : RdC cS w sv sts) (hi : sts[i]? = some s) (hrl : s.1 = 4) (hr : rightD m fs (sts.map toS) i (toS s) = true) (hfv : RdE encI w s.2.1 s.2.2.1) :
    Calls Tryd.prog 38 #[.int .i64 (m : Int), v, sv, .int .i64 (i : Int)] w fun e w' => e = .returned (.bool true) ∧ Below w.heap.size w w' := by
  obtain ⟨rl, fv, l, x, y⟩ := s
  simp only at hrl hfv
  have R : rightD m fs (sts.map toS) i ((rl, l, (x, y)) : Stp) = true := hr
  subst hrl
  have hil := (List.getElem?_eq_some_iff.1 hi).1
  unfold rightD at R
  simp only [show ((4 : Int) = 1) = False by simp, show ((4 : Int) = 2) = False by simp, show ((4 : Int) = 3) = False by simp, if_false, if_true, Bool.and_eq_true] at R
  obtain ⟨r1, R⟩ := R
  have SB1 := hid (show subB (x ||| y) (1#32 <<< m - 1#32) = true by rw [shl_fullD (by omega)]; exact r1)
  obtain ⟨k, j, f, g, hl, hE, hE2, h1, h2⟩ : ∃ k j f g, l = [k, j] ∧ earD (sts.map toS) i k = some f ∧ earD (sts.map toS) i j = some g ∧ f.2 = g.1 ∧ (x, y) = (f.1, g.2) := by
    unfold traD at R
    split at R
    · rename_i q k j
      cases hf : earD (sts.map toS) i k with
      | none => rw [hf] at R; cases R
      | some f =>
        cases hg : earD (sts.map toS) i j with
        | none => rw [hf, hg] at R; cases R
        | some g => rw [hf, hg] at R; simp only [Bool.and_eq_true, beq_iff_eq] at R; exact ⟨k, j, f, g, rfl, hf, hg, R.1, R.2⟩
    · cases R
  obtain ⟨fao, fcap, hfe, hfcells⟩ : ∃ fao fcap, fv = .slice fao 2 fcap ∧ ∃ b off, fao = some ⟨b, off, none⟩ ∧ ∀ W, Below w.heap.size w W → W.cell? ⟨b, off, none⟩ = some (.int .i64 (k : Int)) ∧ W.cell? ⟨b, off + 1, none⟩ = some (.int .i64 (j : Int)) := by
    rw [hl] at hfv
    obtain ⟨a, c, h1, -, h3⟩ := hfv.split
    obtain ⟨b, off, h4, h5⟩ := h3 0 k rfl
    obtain ⟨b', off', h6, h7⟩ := h3 1 j rfl
    rw [h4] at h6
    cases h6
    exact ⟨a, c, h1, b, off, h4, fun W hW => ⟨by simpa [encI] using h5 W hW, by simpa [encI] using h7 W hW⟩⟩
  obtain ⟨fb, foff, rfl, hfc⟩ := hfcells
  subst hfe
  have FC := hid hfc
  have k0 : (0 : Int) ≤ (k : Int) := by omega
  have j0 : (0 : Int) ≤ (j : Int) := by omega
  simp only [Prod.mk.injEq] at h2
  have HXY := hid h2
  have HS4 := hid h1
  have HE := hid (And.intro hE hE2)
  clear hl hfc hE hE2 h1 h2
  have HSV := hid hs
  obtain ⟨so, scap, rfl, hsl, hc⟩ := RdSt.split hs
  obtain ⟨sb, soff, rfl, hd⟩ := hc i _ hi
  have HM := hid hm
  have i0 : (0 : Int) ≤ (i : Int) := by omega
  have il : (i : Int) < (sts.length : Int) := by omega
  have IL := hid hil
  obtain ⟨w1, hw1⟩ : ∃ w1 : World, (w.alloc (.cells #[.slice (some ⟨sb, soff, none⟩) sts.length scap] 37)).alloc (.cells #[.int .i64 (i : Int)] 3) = w1 := ⟨_, rfl⟩
  have W1 := hid hw1
  have B1 := hid (show Below w.heap.size w w1 by rw [← hw1]; exact (below_alloc w _).trans ((below_alloc _ _).mono (by simp)))
  have Z1 := hid (show w1.heap.size = w.heap.size + 2 by rw [← hw1]; simp)
  have a0 : w1.cell? ⟨w.heap.size, 0, none⟩ = some (.slice (some ⟨sb, soff, none⟩) sts.length scap) := by rw [← hw1]; rw [World.cell?_alloc_lt _ _ _ (by simp)]; simp
  have a1 : w1.cell? ⟨w.heap.size + 1, 0, none⟩ = some (.int .i64 (i : Int)) := by rw [← hw1, show w.heap.size + 1 = (w.alloc (.cells #[.slice (some ⟨sb, soff, none⟩) sts.length scap] 37)).heap.size by simp]; simp
  obtain ⟨e0, e1, e2, e3⟩ := hd w1 B1.out
  try simp only at e0 e1 e2 e3
  obtain ⟨w2, hw2⟩ : ∃ w2 : World, w1.alloc (.cells #[.int .i64 4, (.slice (some ⟨fb, foff, none⟩) 2 fcap), .int .u32 (iv x), .int .u32 (iv y)] 72) = w2 := ⟨_, rfl⟩
  have W2 := hid hw2
  have B2 := hid (show Below w1.heap.size w1 w2 by rw [← hw2]; exact below_alloc w1 _)
  have Z2 := hid (show w2.heap.size = w.heap.size + 3 by rw [← hw2]; simp [Z1.out])
  have CC := hid (show w2.cell? ⟨w.heap.size + 2, 0, none⟩ = some (.int .i64 4) ∧ w2.cell? ⟨w.heap.size + 2, 1, none⟩ = some (.slice (some ⟨fb, foff, none⟩) 2 fcap) ∧ w2.cell? ⟨w.heap.size + 2, 2, none⟩ = some (.int .u32 (iv x)) ∧ w2.cell? ⟨w.heap.size + 2, 3, none⟩ = some (.int .u32 (iv y)) by
    have h := cells4D (w := w1) (a := .int .i64 4) (b := (.slice (some ⟨fb, foff, none⟩) 2 fcap)) (c := .int .u32 (iv x)) (d := .int .u32 (iv y)) (t := 72) _ (Below.refl _ _)
    rw [hw2, Z1.out] at h
    exact h)
  obtain ⟨w3, hw3⟩ : ∃ w3 : World, w2.alloc (.cells #[.int .u32 (iv x), .int .u32 (iv y)] 34) = w3 := ⟨_, rfl⟩
  have W3 := hid hw3
  have B3 := hid (show Below w2.heap.size w2 w3 by rw [← hw3]; exact below_alloc w2 _)
  have DD := hid (show w3.cell? ⟨w.heap.size + 3, 0, none⟩ = some (.int .u32 (iv x)) ∧ w3.cell? ⟨w.heap.size + 3, 1, none⟩ = some (.int .u32 (iv y)) by
    have h := cells2 (w := w2) (a := .int .u32 (iv x)) (b := .int .u32 (iv y)) (t := 34) _ (Below.refl _ _)
    rw [hw3, Z2.out] at h
    exact h)
  have RC := hid (show RgtC w3 w.heap.size (.slice (some ⟨sb, soff, none⟩) sts.length scap) i (4, (.slice (some ⟨fb, foff, none⟩) 2 fcap), l, (x, y)) from by
    have k1 : ∀ {p q : Nat} {v : Value}, w1.cell? ⟨p, q, none⟩ = some v → w2.cell? ⟨p, q, none⟩ = some v := fun h => (B2.out.cell (p := ⟨_, _, none⟩) (World.block_lt_of_cell? _ _ h)).trans h
    have k2 : ∀ {p q : Nat} {v : Value}, w2.cell? ⟨p, q, none⟩ = some v → w3.cell? ⟨p, q, none⟩ = some v := fun h => (B3.out.cell (p := ⟨_, _, none⟩) (World.block_lt_of_cell? _ _ h)).trans h
    refine ⟨k2 (k1 a0), k2 (k1 a1), ?_, DD.out⟩
    exact ⟨k2 CC.out.1, k2 CC.out.2.1, k2 CC.out.2.2.1, k2 CC.out.2.2.2⟩)
  have D3 := hid (show Below w.heap.size w w3 from B1.out.trans ((B2.out.trans (B3.out.mono B2.out.size)).mono B1.out.size))
  have HV := hid hv
  obtain ⟨fo, fcp, rfl, -⟩ := hv
  clear hr r1 hc hd hs hsl hi hil hm hw1 hw2 hw3 hfv
  try clear R
  go_enter Tryd.func38, Tryd.ntmps38
  go_upto_region 1 with fail
  rw [W1.out]
  go_upto_region 2 with fail
  rw [W2.out]
  clear e0 e1 e2 e3 a0 a1
  obtain ⟨c0, c1, c2, c3⟩ := CC.out
  try rw [Z1.out]
  go_upto_region 3 with fail
  rw [W3.out]
  clear c0 c1 c2 c3
  try rw [Z2.out]
  obtain ⟨d0, d1⟩ := RC.out.pd
  have DU := hid (fun i : After w3 => Calls.after_same i (duniv_any m (by have := HM.out; omega) i.world))
  have DS := hid (fun i : After w3 => show Calls Tryd.prog 19 #[.int .u32 (iv (x ||| y)), .int .u32 (iv (1#32 <<< m - 1#32))] i.world fun e w' => e = .returned (.bool true) ∧ ∃ j : After w3, w' = j.world from by
    have h := Calls.after_same i (dsub_any (x ||| y) (1#32 <<< m - 1#32) i.world)
    rw [SB1.out] at h
    exact h)
  have f0 : ∀ i : After w3, i.world.cell? ⟨w.heap.size + 3, 0, none⟩ = some (.int .u32 (iv x)) := fun i => After.cell d0 i
  have f1 : ∀ i : After w3, i.world.cell? ⟨w.heap.size + 3, 1, none⟩ = some (.int .u32 (iv y)) := fun i => After.cell d1 i
  have m0 : (0 : Int) ≤ (m : Int) := by omega
  have m1 : (m : Int) ≤ 16 := by have := HM.out; omega
  clear d0 d1
  refine wp_region_after (by kernel_rfl) (by kernel_rfl) ?_
  repeat (any_goals (quiet_step (first | with_reducible exact DU.out _ | with_reducible exact DS.out _)))
  refine wpQuiet_nil ?_
  intro wq hq
  have DQ := hid (D3.out.trans (hq.mono D3.out.size))
  have RQ := hid (RC.out.below hq)
  obtain ⟨q0, q1⟩ := And.intro RQ.out.pa RQ.out.pb
  obtain ⟨c0, c1, c2, c3⟩ := RQ.out.pc
  try simp only at c0 c1 c2 c3
  obtain ⟨d0, d1⟩ := RQ.out.pd
  clear hq f0 f1
  have DE := hid (dear_any sts (.slice (some ⟨sb, soff, none⟩) sts.length scap) i k (w.heap.size + 1) w.heap.size wq (RdC.below HSV.out DQ.out) q1 q0 (Nat.le_of_lt IL.out))
  rw [HE.out.1] at DE
  have x0 := (FC.out wq DQ.out).1
  go_wp2_with fail
  refine DE.out.mono ?_
  rintro e w5 ⟨rfl, hb5⟩
  have D5 := hid (DQ.out.trans (hb5.mono DQ.out.size))
  have R5 := hid (RQ.out.below hb5)
  clear hb5 q0 q1 c0 c1 c2 c3 d0 d1 x0
  have B6 := hid (below_alloc w5 (.cells #[.int .u32 (iv f.1), .int .u32 (iv f.2)] 34))
  have F2 := hid (fun (W : World) h => cells2 (w := w5) (a := .int .u32 (iv f.1)) (b := .int .u32 (iv f.2)) (t := 34) W h)
  obtain ⟨w6, hw6⟩ : ∃ w6 : World, w5.alloc (.cells #[.int .u32 (iv f.1), .int .u32 (iv f.2)] 34) = w6 := ⟨_, rfl⟩
  rw [hw6] at B6 F2
  have W6 := hid hw6
  have D6 := hid (D5.out.trans (B6.out.mono D5.out.size))
  have R6 := hid (R5.out.below B6.out)
  clear hw6
  go_upto_region 20 with fail
  rw [W6.out]
  obtain ⟨q0, q1⟩ := And.intro R6.out.pa R6.out.pb
  obtain ⟨c0, c1, c2, c3⟩ := R6.out.pc
  try simp only at c0 c1 c2 c3
  have DE2 := hid (dear_any sts (.slice (some ⟨sb, soff, none⟩) sts.length scap) i j (w.heap.size + 1) w.heap.size w6 (RdC.below HSV.out D6.out) q1 q0 (Nat.le_of_lt IL.out))
  rw [HE.out.2] at DE2
  have x0 := (FC.out w6 D6.out).2
  go_wp2_with fail
  refine DE2.out.mono ?_
  rintro e w7 ⟨rfl, hb7⟩
  have D7 := hid (D6.out.trans (hb7.mono D6.out.size))
  have R7 := hid (R6.out.below hb7)
  have B8 := hid (below_alloc w7 (.cells #[.int .u32 (iv g.1), .int .u32 (iv g.2)] 34))
  have G2 := hid (fun (W : World) h => cells2 (w := w7) (a := .int .u32 (iv g.1)) (b := .int .u32 (iv g.2)) (t := 34) W h)
  obtain ⟨w8, hw8⟩ : ∃ w8 : World, w7.alloc (.cells #[.int .u32 (iv g.1), .int .u32 (iv g.2)] 34) = w8 := ⟨_, rfl⟩
  rw [hw8] at B8 G2
  have W8 := hid hw8
  have F7 := hid hb7
  clear hb7 q0 q1 c0 c1 c2 c3 x0 hw8
  go_upto_region 21 with fail
  rw [W8.out]
  obtain ⟨y0, y1⟩ := F2.out _ (F7.out.trans (B8.out.mono F7.out.size))
  obtain ⟨d0, d1⟩ := (R7.out.below B8.out).pd
  obtain ⟨z0, z1⟩ := G2.out _ (Below.refl _ _)
  have hfg : (f.2 == g.1) = true := by rw [beq_iff_eq]; exact HS4.out
  obtain ⟨hx, hy⟩ := HXY.out
  subst hx hy
  go_wp2_with fail
  go_ret
  exact ⟨by first | rfl | simp, D7.out.trans (B8.out.mono D7.out.size)⟩

/-- A step that is right. -/
theorem dright_any (m : Nat) (fs : List F) (sts : List St3) (v sv : Value) (i : Nat) (s : St3) (w : World) (hm : m ≤ 16) (hv : RdF w v fs) (hs : RdC cS w sv sts) (hi : sts[i]? = some s) (hr : rightD m fs (sts.map toS) i (toS s) = true) (hfv : RdE encI w s.2.1 s.2.2.1) :
    Calls Tryd.prog 38 #[.int .i64 (m : Int), v, sv, .int .i64 (i : Int)] w fun e w' => e = .returned (.bool true) ∧ Below w.heap.size w w' := by
  by_cases h1 : s.1 = 1
  · exact dright1_any m fs sts v sv i s w hm hv hs hi h1 hr hfv
  by_cases h2 : s.1 = 2
  · exact dright2_any m fs sts v sv i s w hm hv hs hi h2 hr hfv
  by_cases h3 : s.1 = 3
  · exact dright3_any m fs sts v sv i s w hm hv hs hi h3 hr hfv
  by_cases h4 : s.1 = 4
  · exact dright4_any m fs sts v sv i s w hm hv hs hi h4 hr hfv
  exfalso
  unfold rightD toS at hr
  simp [h1, h2, h3, h4] at hr

end Go.Proofs.YtcfcmalaabmceaaDoor
