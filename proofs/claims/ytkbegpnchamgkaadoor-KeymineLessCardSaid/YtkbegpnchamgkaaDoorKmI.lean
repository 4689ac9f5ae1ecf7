/- The walk of drossref03.With. -/
import Derived.Test.YtkbegpnchamgkaaDoorKmH
import Derived.Deep.DeepCutAuto
namespace Go.Proofs.YtkbegpnchamgkaaDoor
open Go.RowKit
set_option linter.unusedVariables false

theorem KeptX.rdF {x : Nat} {a w : World} (h : KeptX a.heap.size x a w) (hM : a.heap.size ≤ w.heap.size) {α : Type} {f : α → Value} {v : Value} {xs : List α} (hr : RdE f a v xs) (hf : FarV v (some x)) : RdE f w v xs := by
  obtain ⟨ao, cap, rfl, h3, h4, h5⟩ := hr
  refine ⟨ao, cap, rfl, h3, h4, fun hp => ?_⟩
  obtain ⟨b, off, rfl, hlt, hc⟩ := h5 hp
  have hne : b ≠ x := fun e => hf _ _ _ rfl hp (by rw [e])
  refine ⟨b, off, rfl, by omega, fun j u hu => ?_⟩
  refine Eq.trans ?_ (hc j u hu)
  rcases Nat.lt_or_gt_of_ne hne with hlt2 | hgt
  · exact h.below.cell (p := ⟨b, off + j, none⟩) hlt2
  · exact h.cell hgt hlt

/-- What stands when With's table is laid: its box, its attributes. -/
structure WithS (w1 W : World) (tb : Nat) (nm : ByteArray) (v : Value) (ats : List ByteArray) : Prop where
  lo : w1.heap.size ≤ tb
  lt : tb < W.heap.size
  c0 : W.cell? ⟨tb, 0, none⟩ = some (.string nm)
  c1 : W.cell? ⟨tb, 1, none⟩ = some v
  c2 : W.cell? ⟨tb, 2, none⟩ = some (.slice none 0 0)
  fz : W.frozen? ⟨tb, 2, none⟩ = false
  rd : RdE encT W v ats
  far : ∀ j, j < w1.heap.size → FarV v (some j)
  ftb : FarV v (some tb)
  below : Below w1.heap.size w1 W

theorem far_type {w : World} {B g n : Nat} {e ty : TypeId} {size : Nat} {v : Value} {xs : List Value} {arr : Array Value} (h : w.ownsRow B e size v n xs) (hg : w.heap[g]? = some (.cells arr ty (0, 0))) (hne : ty ≠ e) : FarV v (some g) := by
  intro a len cap e1 hl e2
  rcases h.2 with ⟨rfl, -⟩ | ⟨g', cap', cur, e3, -, h4, -⟩
  · cases e1
  · rw [e3] at e1; cases e1; cases e2
    rw [hg] at h4; injection h4 with h5; injection h5 with h6 h7; exact hne h7
theorem far_new {w : World} {α : Type} {c : α → List Value} {v : Value} {xs : List α} (h : RdC c w v xs) : FarV v (some w.heap.size) := by
  intro a len cap e1 hl e2
  obtain ⟨ao', cap', e3, -, -, h3⟩ := h
  rw [e3] at e1; cases e1
  obtain ⟨b9, off9, e4, hlt9, -⟩ := h3 hl
  cases e4; simp at e2; omega
theorem WithS.mk_alloc {w1 w2 : World} {nm : ByteArray} {v : Value} {ats : List ByteArray} (hb : Below w1.heap.size w1 w2) (ho : w2.ownsRow w1.heap.size 9 1 v ats.length (ats.flatMap cT1)) (hl : ats.length ≤ 1000) :
    WithS w1 (w2.alloc (.cells #[.string nm, v, .slice none 0 0] 28)) w2.heap.size nm v ats := by
  obtain ⟨z0, z1, z2⟩ := cells3 (w := w2) (a := .string nm) (b := v) (c := .slice none 0 0) (t := 28) _ (Below.refl _ _)
  have hr := RdC.of_owns cT1_length ho (by omega)
  exact ⟨hb.size, by simp, z0, z1, z2, by simp, RdC.to_texts (RdC.below hr (below_alloc _ _)), fun j hj => far_own ho hj, far_new hr, hb.alloc hb.size _⟩
theorem WithS.mk_set {w1 w2 : World} {nm : ByteArray} {v a0 b0 c0 : Value} {ats : List ByteArray} {tb : Nat} {arr : Array Value} (hb : Below w1.heap.size w1 w2) (ho : w2.ownsRow w1.heap.size 9 1 v ats.length (ats.flatMap cT1)) (hl : ats.length ≤ 1000)
    (ht : w2.heap[tb]? = some (.cells arr 28 (0, 0))) (h1 : w1.heap.size ≤ tb) (z0 : w2.cell? ⟨tb, 0, none⟩ = some a0) (z1 : w2.cell? ⟨tb, 1, none⟩ = some b0) (z2 : w2.cell? ⟨tb, 2, none⟩ = some c0) (zf : w2.frozen? ⟨tb, 2, none⟩ = false) :
    WithS w1 (((w2.setCell ⟨tb, 0, none⟩ (.string nm)).setCell ⟨tb, 1, none⟩ v).setCell ⟨tb, 2, none⟩ (.slice none 0 0)) tb nm v ats := by
  have hf := far_type ho ht (by decide)
  have hr := RdC.to_texts (RdC.of_owns cT1_length ho (by omega))
  obtain ⟨wf, hwf⟩ : ∃ wf : World, ((w2.setCell ⟨tb, 0, none⟩ (.string nm)).setCell ⟨tb, 1, none⟩ v).setCell ⟨tb, 2, none⟩ (.slice none 0 0) = wf := ⟨_, rfl⟩
  obtain ⟨r0, r1, r2⟩ := set3w z0 z1 z2 hwf
  have hlt : tb < w2.heap.size := World.block_lt_of_cell? _ _ z0
  refine ⟨h1, ?_, by rw [hwf]; exact r0, by rw [hwf]; exact r1, by rw [hwf]; exact r2, ?_, ?_, fun j hj => far_own ho hj, hf, ?_⟩
  · simp; exact hlt
  · simp [zf]
  · exact RdE.set3 hr hf
  · exact ((hb.setCell (p := ⟨tb, 0, none⟩) h1 _).setCell (p := ⟨tb, 1, none⟩) h1 _).setCell (p := ⟨tb, 2, none⟩) h1 _

set_option maxHeartbeats 6400000 in
set_option maxRecDepth 100000 in
theorem rwith_any (nm : ByteArray) (ats : List ByteArray) (av rv0 : Value) (rs : List Row3) (v : Value) (w : World) (ha : RdE encT w av ats) (hr : RdR w v rs) (hla : ats.length ≤ 1000) (hlr : rs.length ≤ 1000) (hv1 : ∀ r ∈ rs, r.2.2.length ≤ 1000) :
    Calls Tryd.prog 35 #[.agg #[.string nm, av, rv0], v] w fun e w' => ∃ (av' rv' : Value) (rs' : List Row3), e = .returned (.agg #[.string nm, av', rv']) ∧ RdT w' av' rv' (nm, ats, rs') ∧ cpAs rs rs' ∧ FreT w.heap.size av' rv' rs' ∧ Below w.heap.size w w' := by
  have CP := hid (fun (id : Int) (xs : List V3) (u : Value) (W : World) (hu : RdV W u xs) (hl : xs.length ≤ 1000) => rcp_any id xs u W hu hl)
  have IW := hid (show ∀ x : Int, 0 ≤ x → x ≤ 1000 → IntKind.i64.wrap x = x from fun x h0 h1 => by rw [IntKind.wrap_i64]; omega)
  obtain ⟨c0, c1, c2⟩ := cells3 (w := w) (a := .string nm) (b := av) (c := rv0) (t := 28) _ (Below.refl _ _)
  have hb0 := below_alloc w (.cells #[.string nm, av, rv0] 28)
  obtain ⟨w0, hw0⟩ : ∃ w0 : World, w.alloc (.cells #[.string nm, av, rv0] 28) = w0 := ⟨_, rfl⟩
  have hs0 : w0.heap.size = w.heap.size + 1 := by rw [← hw0]; simp
  rw [hw0] at c0 c1 c2 hb0
  obtain ⟨z0, z1, z2⟩ := cells3 (w := w0) (a := .string (ByteArray.mk #[])) (b := .slice none 0 0) (c := .slice none 0 0) (t := 28) _ (Below.refl _ _)
  have zf : ∀ j, (w0.alloc (.cells #[.string (ByteArray.mk #[]), .slice none 0 0, .slice none 0 0] 28)).frozen? ⟨w0.heap.size, j, none⟩ = false := fun j => by simp
  have hb1 := below_alloc w0 (.cells #[.string (ByteArray.mk #[]), .slice none 0 0, .slice none 0 0] 28)
  obtain ⟨w1, hw1⟩ : ∃ w1 : World, w0.alloc (.cells #[.string (ByteArray.mk #[]), .slice none 0 0, .slice none 0 0] 28) = w1 := ⟨_, rfl⟩
  have hs1 : w1.heap.size = w.heap.size + 1 + 1 := by rw [← hw1]; simp [hs0]
  rw [hw1] at z0 z1 z2 zf hb1
  rw [hs0] at z0 z1 z2 zf
  replace c0 := (hb1.cell (p := ⟨w.heap.size, 0, none⟩) (by show w.heap.size < _; omega)).trans c0
  replace c1 := (hb1.cell (p := ⟨w.heap.size, 1, none⟩) (by show w.heap.size < _; omega)).trans c1
  replace c2 := (hb1.cell (p := ⟨w.heap.size, 2, none⟩) (by show w.heap.size < _; omega)).trans c2
  have B1 := hid (hb0.trans (hb1.mono (by omega)))
  have W0 := hid hw0
  have W1 := hid hw1
  have HS1 := hid hs1
  have HA := hid (RdE.to_cells (ha.below B1.out))
  have HR := hid (hr.below B1.out)
  have HZ := hid (And.intro z0 (And.intro z1 (And.intro z2 zf)))
  have HV1 := hid hv1
  have HLA := hid hla
  have HLR := hid hlr
  obtain ⟨ro, rcap, rfl, -, hrc⟩ := RdR.split HR.out
  have RC := hid hrc
  clear ha hr hb0 hb1 hw0 hw1 hs0 hs1 z0 z1 z2 zf hrc hv1 hla hlr
  have CB := hid (And.intro c0 (And.intro c1 c2))
  have KK := hid (fun (Wd W : World) (row : Nat) (h1 : Below w1.heap.size w1 Wd) (h2 : Wd.grownBy W (some row)) (h3 : w1.heap.size ≤ row) => show W.cell? ⟨w.heap.size, 0, none⟩ = some (.string nm) ∧ W.cell? ⟨w.heap.size, 1, none⟩ = some av ∧ (∀ o, (W.alloc o).cell? ⟨w.heap.size, 0, none⟩ = some (.string nm)) ∧ (∀ o, (W.alloc o).cell? ⟨w.heap.size, 1, none⟩ = some av) from by
    have hlt : w.heap.size < w1.heap.size := by have := HS1.out; omega
    have e0 : W.cell? ⟨w.heap.size, 0, none⟩ = some (.string nm) := (h2.cell_far ⟨w.heap.size, 0, none⟩ (Nat.lt_of_lt_of_le hlt h1.size) (by simp; omega)).trans ((h1.cell (p := ⟨w.heap.size, 0, none⟩) hlt).trans CB.out.1)
    have e1 : W.cell? ⟨w.heap.size, 1, none⟩ = some av := (h2.cell_far ⟨w.heap.size, 1, none⟩ (Nat.lt_of_lt_of_le hlt h1.size) (by simp; omega)).trans ((h1.cell (p := ⟨w.heap.size, 1, none⟩) hlt).trans CB.out.2.1)
    have hl2 : w.heap.size < W.heap.size := Nat.lt_of_lt_of_le (Nat.lt_of_lt_of_le hlt h1.size) h2.size
    exact ⟨e0, e1, fun o => ((below_alloc W o).cell (p := ⟨w.heap.size, 0, none⟩) hl2).trans e0, fun o => ((below_alloc W o).cell (p := ⟨w.heap.size, 1, none⟩) hl2).trans e1⟩)
  have ka0 : ∀ o, (w1.alloc o).cell? ⟨w.heap.size, 0, none⟩ = some (.string nm) := fun o => ((below_alloc w1 o).cell (p := ⟨w.heap.size, 0, none⟩) (by have := HS1.out; show w.heap.size < _; omega)).trans c0
  have ka1 : ∀ o, (w1.alloc o).cell? ⟨w.heap.size, 1, none⟩ = some av := fun o => ((below_alloc w1 o).cell (p := ⟨w.heap.size, 1, none⟩) (by have := HS1.out; show w.heap.size < _; omega)).trans c1
  have kb0 : ∀ o o', ((w1.alloc o).alloc o').cell? ⟨w.heap.size, 0, none⟩ = some (.string nm) := fun o o' => ((below_alloc (w1.alloc o) o').cell (p := ⟨w.heap.size, 0, none⟩) (by have := HS1.out; show w.heap.size < _; simp; omega)).trans (ka0 o)
  have kb1 : ∀ o o', ((w1.alloc o).alloc o').cell? ⟨w.heap.size, 1, none⟩ = some av := fun o o' => ((below_alloc (w1.alloc o) o').cell (p := ⟨w.heap.size, 1, none⟩) (by have := HS1.out; show w.heap.size < _; simp; omega)).trans (ka1 o)
  have X1 := hid (show Below w1.heap.size w1 (w1.drew.alloc (.cells #[] 9)) from (Below.refl _ _).drew.alloc (by simp) _)
  have X2 := hid (show Below w1.heap.size w1 ((w1.drew.alloc (.cells #[] 9)).alloc (.cells #[.string (ByteArray.mk #[]), .slice none 0 0, .slice none 0 0] 28)) from X1.out.alloc X1.out.size _)
  have Y3 := hid (show Below w1.heap.size w1 (w1.drew.alloc (.cells #[.string (ByteArray.mk #[]), .slice none 0 0, .slice none 0 0] 28)) from (Below.refl _ _).drew.alloc (by simp) _)
  have X3 := hid (show Below w1.heap.size w1 ((w1.drew.alloc (.cells #[.string (ByteArray.mk #[]), .slice none 0 0, .slice none 0 0] 28)).alloc (.cells #[] 9)) from Y3.out.alloc Y3.out.size _)
  have E1 := hid (show (w1.drew.alloc (.cells #[] 9)).ownsRow w1.heap.size 9 1 (.slice (some ⟨w1.heap.size, 0, none⟩) 0 0) ([] : List ByteArray).length (([] : List ByteArray).flatMap cT1) from World.ownsRow_lit (size := 1) (e := 9) (base := w1.heap.size) w1.drew #[] 0 (Nat.le_refl _) (Nat.zero_le _) rfl)
  have E2 := hid (own_below E1.out (below_alloc _ (.cells #[.string (ByteArray.mk #[]), .slice none 0 0, .slice none 0 0] 28)))
  have E3 := hid (show ((w1.drew.alloc (.cells #[.string (ByteArray.mk #[]), .slice none 0 0, .slice none 0 0] 28)).alloc (.cells #[] 9)).ownsRow w1.heap.size 9 1 (.slice (some ⟨w1.heap.size + 1, 0, none⟩) 0 0) ([] : List ByteArray).length (([] : List ByteArray).flatMap cT1) from by
    have := World.ownsRow_lit (size := 1) (e := 9) (base := w1.heap.size) (w1.drew.alloc (.cells #[.string (ByteArray.mk #[]), .slice none 0 0, .slice none 0 0] 28)) #[] 0 (by simp) (Nat.zero_le _) rfl
    simpa using this)
  have FZ := hid (fun (W : World) (o : Array Value) (t : TypeId) (j : Nat) => show (W.alloc (.cells o t)).frozen? ⟨W.heap.size, j, none⟩ = _ from World.frozen?_alloc_new W o t j)
  have TZ2 := hid (fun (W : World) (h : ((w1.drew.alloc (.cells #[] 9)).alloc (.cells #[.string (ByteArray.mk #[]), .slice none 0 0, .slice none 0 0] 28)).grownBy W (some w1.heap.size)) => show (W.cell? ⟨w1.heap.size + 1, 0, none⟩ = some (.string (ByteArray.mk #[])) ∧ W.cell? ⟨w1.heap.size + 1, 1, none⟩ = some (.slice none 0 0) ∧ W.cell? ⟨w1.heap.size + 1, 2, none⟩ = some (.slice none 0 0)) ∧ W.frozen? ⟨w1.heap.size + 1, 0, none⟩ = false ∧ W.frozen? ⟨w1.heap.size + 1, 1, none⟩ = false ∧ W.frozen? ⟨w1.heap.size + 1, 2, none⟩ = false ∧ W.heap[w1.heap.size + 1]? = some (.cells #[.string (ByteArray.mk #[]), .slice none 0 0, .slice none 0 0] 28 (0, 0)) from by
    have e : ∀ j, W.cell? ⟨w1.heap.size + 1, j, none⟩ = _ := fun j => h.cell_far ⟨w1.heap.size + 1, j, none⟩ (by simp) (by simp)
    have f : ∀ j, W.frozen? ⟨w1.heap.size + 1, j, none⟩ = _ := fun j => h.frozen_far ⟨w1.heap.size + 1, j, none⟩ (by simp) (by simp)
    have hty := h.block (w1.heap.size + 1) (by simp) (by simp)
    have hc := cells3 (w := w1.drew.alloc (.cells #[] 9)) (a := .string (ByteArray.mk #[])) (b := .slice none 0 0) (c := .slice none 0 0) (t := 28) _ (Below.refl _ _)
    have hs : (w1.drew.alloc (.cells #[] 9)).heap.size = w1.heap.size + 1 := by simp
    have hf := fun j => FZ.out (w1.drew.alloc (.cells #[] 9)) #[.string (ByteArray.mk #[]), .slice none 0 0, .slice none 0 0] 28 j
    have hn := heap_alloc_new (w1.drew.alloc (.cells #[] 9)) (.cells #[.string (ByteArray.mk #[]), .slice none 0 0, .slice none 0 0] 28)
    rw [hs] at hc hf hn
    exact ⟨⟨(e 0).trans hc.1, (e 1).trans hc.2.1, (e 2).trans hc.2.2⟩, (f 0).trans (hf 0), (f 1).trans (hf 1), (f 2).trans (hf 2), hty.trans hn⟩)
  have TZ3 := hid (fun (W : World) (h : ((w1.drew.alloc (.cells #[.string (ByteArray.mk #[]), .slice none 0 0, .slice none 0 0] 28)).alloc (.cells #[] 9)).grownBy W (some (w1.heap.size + 1))) => show (W.cell? ⟨w1.heap.size, 0, none⟩ = some (.string (ByteArray.mk #[])) ∧ W.cell? ⟨w1.heap.size, 1, none⟩ = some (.slice none 0 0) ∧ W.cell? ⟨w1.heap.size, 2, none⟩ = some (.slice none 0 0)) ∧ W.frozen? ⟨w1.heap.size, 0, none⟩ = false ∧ W.frozen? ⟨w1.heap.size, 1, none⟩ = false ∧ W.frozen? ⟨w1.heap.size, 2, none⟩ = false ∧ W.heap[w1.heap.size]? = some (.cells #[.string (ByteArray.mk #[]), .slice none 0 0, .slice none 0 0] 28 (0, 0)) from by
    have hb := below_alloc (w1.drew.alloc (.cells #[.string (ByteArray.mk #[]), .slice none 0 0, .slice none 0 0] 28)) (.cells #[] 9)
    have e : ∀ j, W.cell? ⟨w1.heap.size, j, none⟩ = _ := fun j => (h.cell_far ⟨w1.heap.size, j, none⟩ (by simp; omega) (by simp)).trans (hb.cell (p := ⟨w1.heap.size, j, none⟩) (by simp))
    have f : ∀ j, W.frozen? ⟨w1.heap.size, j, none⟩ = _ := fun j => (h.frozen_far ⟨w1.heap.size, j, none⟩ (by simp; omega) (by simp)).trans (hb.frozen (p := ⟨w1.heap.size, j, none⟩) (by simp))
    have hty := (h.block w1.heap.size (by simp; omega) (by simp)).trans (hb.block w1.heap.size (by simp))
    have hc := cells3 (w := w1.drew) (a := .string (ByteArray.mk #[])) (b := .slice none 0 0) (c := .slice none 0 0) (t := 28) _ (Below.refl _ _)
    have hf := fun j => FZ.out w1.drew #[.string (ByteArray.mk #[]), .slice none 0 0, .slice none 0 0] 28 j
    have hn := heap_alloc_new w1.drew (.cells #[.string (ByteArray.mk #[]), .slice none 0 0, .slice none 0 0] 28)
    exact ⟨⟨(e 0).trans hc.1, (e 1).trans hc.2.1, (e 2).trans hc.2.2⟩, (f 0).trans (hf 0), (f 1).trans (hf 1), (f 2).trans (hf 2), hty.trans hn⟩)
  clear c0 c1 c2
  obtain ⟨c0, c1, c2⟩ := CB.out
  go_enter Tryd.func35, Tryd.ntmps35
  go_upto_region 1 with fail
  rw [W0.out, W1.out]
  go_cut [5] (fun s5 wx => ∃ tb o2 cap2, s5 = .pointer (some ⟨tb, 0, none⟩) ∧ WithS w1 wx tb nm (.slice o2 ats.length cap2) ats)
  case first =>
    go_region_law (first
      | (refine step_appC (by rfl) _ _ 25 (by rfl) w1.heap.size 9 (.string (ByteArray.mk #[])) 16 undStrsK infoStrK rfl (by decide) (by decide) cT1_length cT1_one _ ([] : List ByteArray) (by rfl) E1.out _ ats (by rfl) (RdC.below HA.out X1.out) (by have := HLA.out; simp; omega) X1.out.size ?_; intro v2 w2 ho2 hg2; obtain ⟨o2, cap2, rfl, -⟩ := RdC.of_owns cT1_length ho2 (by have := HLA.out; simp; omega); obtain ⟨yb0, yb1, yb2, yb3⟩ := KK.out _ _ _ X1.out hg2 (Nat.le_refl _); have WS := hid (WithS.mk_alloc (nm := nm) (v := .slice o2 ats.length cap2) (ats := ats) (X1.out.grown hg2 X1.out.size (fun j hj => by cases hj; exact Nat.le_refl _)) ho2 HLA.out))
      | (refine step_appC (by rfl) _ _ 25 (by rfl) w1.heap.size 9 (.string (ByteArray.mk #[])) 16 undStrsK infoStrK rfl (by decide) (by decide) cT1_length cT1_one _ ([] : List ByteArray) (by rfl) E2.out _ ats (by rfl) (RdC.below HA.out X2.out) (by have := HLA.out; simp; omega) X2.out.size ?_; intro v2 w2 ho2 hg2; obtain ⟨o2, cap2, rfl, -⟩ := RdC.of_owns cT1_length ho2 (by have := HLA.out; simp; omega); obtain ⟨yb0, yb1, yb2, yb3⟩ := KK.out _ _ _ X2.out hg2 (Nat.le_refl _); obtain ⟨⟨yt0, yt1, yt2⟩, yf0, yf1, yf2, yty⟩ := TZ2.out w2 hg2; have WS := hid (WithS.mk_set (nm := nm) (v := .slice o2 ats.length cap2) (ats := ats) (X2.out.grown hg2 X2.out.size (fun j hj => by cases hj; exact Nat.le_refl _)) ho2 HLA.out yty (Nat.le_succ _) yt0 yt1 yt2 yf2); clear yty)
      | (refine step_appC (by rfl) _ _ 25 (by rfl) w1.heap.size 9 (.string (ByteArray.mk #[])) 16 undStrsK infoStrK rfl (by decide) (by decide) cT1_length cT1_one _ ([] : List ByteArray) (by rfl) E3.out _ ats (by rfl) (RdC.below HA.out X3.out) (by have := HLA.out; simp; omega) X3.out.size ?_; intro v2 w2 ho2 hg2; obtain ⟨o2, cap2, rfl, -⟩ := RdC.of_owns cT1_length ho2 (by have := HLA.out; simp; omega); obtain ⟨yb0, yb1, yb2, yb3⟩ := KK.out _ _ _ X3.out hg2 (Nat.le_succ _); obtain ⟨⟨yt0, yt1, yt2⟩, yf0, yf1, yf2, yty⟩ := TZ3.out w2 hg2; have WS := hid (WithS.mk_set (nm := nm) (v := .slice o2 ats.length cap2) (ats := ats) (X3.out.grown hg2 X3.out.size (fun j hj => by cases hj; exact Nat.le_succ _)) ho2 HLA.out yty (Nat.le_refl _) yt0 yt1 yt2 yf2); clear yty))
    all_goals (go_wp2_with fail; go_meet; exact ⟨_, _, _, rfl, WS.out⟩)
  case rest =>
    obtain ⟨tb, o2, cap2, rfl, hws⟩ := hcut
    have HWS := hid hws
    have HM := hid hws.lt
    have hr0 := hid (hws.below)
    have RC2 := hid (fun (k : Nat) (r : Row3) (hr : rs[k]? = some r) => show (∃ b off, ro = some ⟨b, off, none⟩ ∧ b < w1.heap.size ∧ ∀ wr, Below w1.heap.size w1 wr → wr.cell? ⟨b, off + k * 2, none⟩ = some (.int .i64 r.1) ∧ wr.cell? ⟨b, off + k * 2 + 1, none⟩ = some r.2.1) ∧ ∀ wr, Below w1.heap.size w1 wr → RdV wr r.2.1 r.2.2 from by
      obtain ⟨⟨b, off, e1, e2⟩, e3⟩ := RC.out k r hr
      have e4 := e2 w1 (Below.refl _ _)
      exact ⟨⟨b, off, e1, World.block_lt_of_cell? _ _ e4.1, fun wr h => e2 wr h⟩, fun wr h => e3 wr h⟩)
    clear hws ka0 ka1 kb0 kb1 X1 X2 Y3 X3 E1 E2 E3 TZ2 TZ3 KK FZ
    go_wp2_with fail
    go_loopw [6] (fun i wr => ∃ (k : Nat) (rs' : List Row3) (tv : Value), k ≤ rs.length ∧ i = .int .i64 k ∧ (wr.cell? ⟨tb, 0, none⟩ = some (.string nm) ∧ wr.cell? ⟨tb, 1, none⟩ = some (.slice o2 ats.length cap2) ∧ wr.cell? ⟨tb, 2, none⟩ = some tv) ∧ wr.frozen? ⟨tb, 2, none⟩ = false ∧ wr.ownsRow wc.heap.size 78 2 tv rs'.length (rs'.flatMap cR) ∧ Hid (∀ r ∈ rs', RdV wr r.2.1 r.2.2 ∧ FarV r.2.1 tv.ownBlock ∧ (∀ j, j ≤ tb → FarV r.2.1 (some j))) ∧ Hid (cpAs (rs.take k) rs') ∧ Hid (KeptX wc.heap.size tb wc wr) ∧ wc.heap.size ≤ wr.heap.size) (fun i _ => rs.length - (intOf i).toNat)
    case atStart => exact ⟨0, [], _, by omega, rfl, ⟨HWS.out.c0, HWS.out.c1, HWS.out.c2⟩, HWS.out.fz, World.ownsRow_nil _ _ _ _, hid (fun _ h => absurd h (by simp)), hid rfl, hid (KeptX.refl _ _ _), Nat.le_refl _⟩
    case round =>
      obtain ⟨k, rs', tv, hk, rfl, ⟨t0, t1, t2⟩, tf, hown, HRS, HMP, HKX, hM6⟩ := hrel
      have hso : tb < wr.heap.size := World.block_lt_of_cell? _ _ t0
      have HLQ := hid (show rs'.length ≤ k by have := congrArg List.length HMP.out; rw [List.length_map, List.length_map] at this; have h2 := List.length_take_le k rs; omega)
      have HRL := hid (show rs'.length ≤ 1000 by have := HLQ.out; have := HLR.out; omega)
      have BW := hid (show Below w1.heap.size w1 wr from hr0.out.trans (HKX.out.below.mono HWS.out.lo))
      have k0 : (0 : Int) ≤ (k : Int) := by omega
      have k9 : (k : Int) ≤ 1000 := by have := HLR.out; omega
      by_cases hlt : k < rs.length
      · obtain ⟨⟨id, u, xs⟩, hx⟩ := get_some hlt
        obtain ⟨⟨b, off, rfl, hbl, hce⟩, hrv⟩ := RC2.out k (id, u, xs) hx
        obtain ⟨e0, e1⟩ := hce wr BW.out
        have HRV := hid (hrv wr BW.out)
        have HXL := hid (HV1.out _ (List.mem_of_getElem? hx))
        have EXK := hid hx
        simp only at e0 e1
        obtain ⟨uo, ucap, hu, -⟩ := RdV.split HRV.out
        simp only at hu
        subst hu
        have HCR := hid (show ∀ W : World, Below wr.heap.size wr W → Calls Tryd.prog 52 #[.agg #[.int .i64 id, .slice uo xs.length ucap]] W fun e w' => ∃ v', e = .returned (.agg #[.int .i64 id, v']) ∧ w'.ownsRow W.heap.size 87 3 v' xs.length (xs.flatMap cV) ∧ Below W.heap.size W w' from fun W h => CP.out id xs _ W (RdC.below HRV.out h) HXL.out)
        have KS := hid (fun (W : World) (h : Below wr.heap.size wr W) => show W.cell? ⟨tb, 0, none⟩ = some (.string nm) ∧ W.cell? ⟨tb, 1, none⟩ = some (.slice o2 ats.length cap2) ∧ W.cell? ⟨tb, 2, none⟩ = some tv ∧ W.frozen? ⟨tb, 2, none⟩ = false ∧ W.cell? ⟨b, off + k * 2, none⟩ = some (.int .i64 id) ∧ W.cell? ⟨b, off + k * 2 + 1, none⟩ = some (.slice uo xs.length ucap) from
          ⟨(h.cell (p := ⟨tb, 0, none⟩) hso).trans t0, (h.cell (p := ⟨tb, 1, none⟩) hso).trans t1, (h.cell (p := ⟨tb, 2, none⟩) hso).trans t2, (h.frozen (p := ⟨tb, 2, none⟩) hso).trans tf, (h.cell (p := ⟨b, off + k * 2, none⟩) (World.block_lt_of_cell? _ _ e0)).trans e0, (h.cell (p := ⟨b, off + k * 2 + 1, none⟩) (World.block_lt_of_cell? _ _ e1)).trans e1⟩)
        have HNT := hid (show some tb ≠ tv.ownBlock from fun e => by have := (hown.lt _ e.symm).1; have := HM.out; omega)
        have HO := hid hown
        have HSO := hid hso
        have HM6 := hid hM6
        have HLT := hid hlt
        have LEN9 := hid (fun y : Row3 => show (rs' ++ [y]).length ≤ 35184372088832 by have := HRL.out; rw [List.length_append, List.length_singleton]; omega)
        have CNR := hid (fun (W : World) (y : Row3) => cells_newR W y (t := 78))
        clear hown hM6 hx hce hrv hbl
        go_wp2_with fail
        go_region_law (first
          | (go_simp; go_at_call 52; refine (HCR.out _ (below_drewN wr.heap.size wr 1)).mono ?_; rintro e w5 ⟨v5, rfl, hov, hb5⟩; have hL := (below_drewN wr.heap.size wr 1).trans hb5; have hrv := RdC.of_owns cV_length hov (by have := HXL.out; omega); have hfv : ∀ j, j < wr.heap.size → FarV v5 (some j) := (fun j hj => far_own hov hj); obtain ⟨o5, cap5, hv5, -⟩ := RdV.split hrv; subst hv5; have ho5 := own_below HO.out.drew hb5; obtain ⟨d0, d1, d2, d3, d4, d5⟩ := KS.out _ hL; obtain ⟨b0, b1, b2, b3, b4, b5⟩ := KS.out _ (hL.alloc hL.size (.cells #[.int .i64 id, .slice o5 xs.length cap5] 78)); clear hb5 hov)
          | (refine step_pushB (by rfl) _ _ 26 (by rfl) wc.heap.size 78 (.agg #[.int .i64 0, .slice none 0 0]) 2 32 undRows infoRow rfl (by decide) (by decide) cR cR_length _ rs' (by rfl) (ho5.alloc (.cells #[.int .i64 id, .slice o5 xs.length cap5] 78)) ⟨w5.heap.size, 0, none⟩ ((id, .slice o5 xs.length cap5, xs) : Row3) (by intro u hu; simp [cR] at hu; rcases hu with rfl | rfl <;> rfl) (by rfl) (CNR.out w5 ((id, .slice o5 xs.length cap5, xs) : Row3)) (by have := HRL.out; omega) (by have := HM6.out; have := hL.size; simp; omega) ?_; intro v8 w8 hown8' hg8 hv8; obtain ⟨o8, cap8, rfl, -⟩ := RdC.of_owns cR_length hown8' (LEN9.out _); have u0 := (hg8.cell_far ⟨tb, 0, none⟩ (World.block_lt_of_cell? _ _ b0) HNT.out).trans b0; have u1 := (hg8.cell_far ⟨tb, 1, none⟩ (World.block_lt_of_cell? _ _ b1) HNT.out).trans b1; have u2 := (hg8.cell_far ⟨tb, 2, none⟩ (World.block_lt_of_cell? _ _ b2) HNT.out).trans b2; have uf := (hg8.frozen_far ⟨tb, 2, none⟩ (World.block_lt_of_cell? _ _ b2) HNT.out).trans b3))
        all_goals
          obtain ⟨y, hy⟩ : ∃ y : Row3, ((id, .slice o5 xs.length cap5, xs) : Row3) = y := ⟨_, rfl⟩
          have HY1 := hid (show y.2.1 = .slice o5 xs.length cap5 by rw [← hy])
          have HY2 := hid (show y.2.2 = xs by rw [← hy])
          have YM := hid (show ((y.1, y.2.2) : Int × List V3) = (id, xs) by rw [← hy])
          have hown8 : w8.ownsRow wc.heap.size 78 2 (.slice o8 (rs' ++ [((id, .slice o5 xs.length cap5, xs) : Row3)]).length cap8) (rs' ++ [y]).length ((rs' ++ [y]).flatMap cR) := by rw [← hy]; exact hown8'
          rw [hy] at hown8 hv8
          try rw [hy]
          have hba := below_alloc w5 (.cells #[.int .i64 id, .slice o5 xs.length cap5] 78)
          have RV := hid (show RdV (w5.alloc (.cells #[.int .i64 id, .slice o5 xs.length cap5] 78)) y.2.1 y.2.2 by rw [HY1.out, HY2.out]; exact RdC.below hrv hba)
          have FV := hid (show ∀ j, j < wr.heap.size → FarV y.2.1 (some j) by rw [HY1.out]; exact hfv)
          have BWA := hid (hL.trans (hba.mono hL.size))
          have hsa : wr.heap.size ≤ (w5.alloc (.cells #[.int .i64 id, .slice o5 xs.length cap5] 78)).heap.size := BWA.out.size
          obtain ⟨wa, hwa⟩ : ∃ wa : World, w5.alloc (.cells #[.int .i64 id, .slice o5 xs.length cap5] 78) = wa := ⟨_, rfl⟩
          rw [hwa] at RV hg8 hv8 BWA hsa
          have KX8 := (HKX.out.later BWA.out HM6.out (by have := HSO.out; omega)).grown hg8 (Nat.le_trans HM6.out hsa) (Nat.le_of_lt HM.out) (fun j hj => (HO.out.lt j hj).1)
          have KX9 := hid (KX8.set (o := 2) (.slice o8 (rs' ++ [y]).length cap8))
          have OW9 := hid (ownsRow_setCell_other hown8 (a := ⟨tb, 2, none⟩) (fun e => absurd (hown8.lt _ e).1 (Nat.not_le.2 HM.out)) (.slice o8 (rs' ++ [y]).length cap8))
          have HM9 := hid (show cpAs (rs.take (k + 1)) (rs' ++ [y]) by
            have h := HMP.out
            unfold cpAs at h ⊢
            rw [List.map_append, h, take_next EXK.out, List.map_append, List.map_singleton, List.map_singleton, YM.out])
          have HS9 := hid (show wc.heap.size ≤ (w8.setCell ⟨tb, 2, none⟩ (.slice o8 (rs' ++ [y]).length cap8)).heap.size by have h1 := hg8.size; have h2 := HM6.out; simp; omega)
          have HR9 := hid (show ∀ r' ∈ rs' ++ [y], RdV (w8.setCell ⟨tb, 2, none⟩ (.slice o8 (rs' ++ [y]).length cap8)) r'.2.1 r'.2.2 ∧ FarV r'.2.1 (Value.slice o8 (rs' ++ [y]).length cap8).ownBlock ∧ (∀ j, j ≤ tb → FarV r'.2.1 (some j)) by
            intro r' hr'
            rcases List.mem_append.1 hr' with h | h
            · obtain ⟨p1, p2, p3⟩ := HRS.out r' h
              have p4 := RdC.grown (RdC.below p1 BWA.out) hg8 p2
              refine ⟨RdC.setFar p4 (p3 tb (Nat.le_refl _)), ?_, p3⟩
              rcases hv8 with e | e
              · rw [e]; exact p2
              · rw [e]; intro a len cap e1 hl e2
                obtain ⟨ao', cap', e3, -, -, h3⟩ := p1
                rw [e3] at e1; cases e1
                obtain ⟨b9, off9, e4, hlt9, -⟩ := h3 hl
                cases e4; simp at e2; omega
            · obtain rfl := List.mem_singleton.1 h
              have pt : FarV r'.2.1 tv.ownBlock := by
                cases ho : tv.ownBlock with
                | none => intro a len cap _ _ e2; cases e2
                | some j => exact FV.out j (HO.out.lt j ho).2
              have p4 := RdC.grown RV.out hg8 pt
              have pb : ∀ j, j ≤ tb → FarV r'.2.1 (some j) := fun j hj => FV.out j (by have := HSO.out; omega)
              refine ⟨RdC.setFar p4 (pb tb (Nat.le_refl _)), ?_, pb⟩
              rcases hv8 with e | e
              · rw [e]; exact pt
              · rw [e]; intro a len cap e1 hl e2
                obtain ⟨ao', cap', e3, -, -, h3⟩ := RV.out
                rw [e3] at e1; cases e1
                obtain ⟨b9, off9, e4, hlt9, -⟩ := h3 hl
                cases e4; simp at e2; omega)
          have g0 : (w8.setCell ⟨tb, 2, none⟩ (.slice o8 (rs' ++ [y]).length cap8)).cell? ⟨tb, 0, none⟩ = _ := (World.cell?_setCell_other _ _ _ _ (by simp)).trans u0
          have g1 : (w8.setCell ⟨tb, 2, none⟩ (.slice o8 (rs' ++ [y]).length cap8)).cell? ⟨tb, 1, none⟩ = _ := (World.cell?_setCell_other _ _ _ _ (by simp)).trans u1
          have g2 : (w8.setCell ⟨tb, 2, none⟩ (.slice o8 (rs' ++ [y]).length cap8)).cell? ⟨tb, 2, none⟩ = some (.slice o8 (rs' ++ [y]).length cap8) := World.cell?_setCell_same _ _ _ u2
          have gf : (w8.setCell ⟨tb, 2, none⟩ (.slice o8 (rs' ++ [y]).length cap8)).frozen? ⟨tb, 2, none⟩ = false := by simp [uf]
          have GG := hid (And.intro g0 (And.intro g1 (And.intro g2 gf)))
          clear g0 g1 g2 gf hown8 hown8' hg8 hv8 hy hwa hsa hba e0 e1 hrv hfv hL ho5 u0 u1 u2 uf KX8 b0 b1 b2 b3 b4 b5 d0 d1 d2 d3 d4 d5 t0 t1 t2 tf
          try rw [show rs'.length + 1 = (rs' ++ [y]).length by simp]
          generalize w8.setCell ⟨tb, 2, none⟩ (.slice o8 (rs' ++ [y]).length cap8) = w9 at *
          go_wp2_with fail
          go_roundw
          case rel => exact ⟨k + 1, rs' ++ [y], _, by have := HLT.out; omega, by go_num, ⟨GG.out.1, GG.out.2.1, GG.out.2.2.1⟩, GG.out.2.2.2, OW9.out, HR9, HM9, KX9, HS9.out⟩
          case measure => have := HLT.out; simp [intOf]; omega
      · have hk3 : k = rs.length := by omega
        have HMf := hid (show cpAs rs rs' by have h := HMP.out; rwa [hk3, List.take_length] at h)
        have RT := hid (show RdC cR wr tv rs' from RdC.of_owns cR_length hown (by have := HRL.out; omega))
        obtain ⟨tq, tcap, rfl, -⟩ := RdC.of_owns cR_length hown (by have := HRL.out; omega)
        have TF := hid (fun (j : Nat) (hj : j < wc.heap.size) => far_own hown hj)
        have HBX := hid HKX.out.below
        have AV9 := hid (HKX.out.rdF hM6 HWS.out.rd HWS.out.ftb)
        have hwt : w.heap.size + 1 < tb := by have := HWS.out.lo; have := HS1.out; omega
        have hw1 : w.heap.size + 1 < w1.heap.size := by have := HS1.out; omega
        have z0 := (BW.out.cell (p := ⟨w.heap.size + 1, 0, none⟩) hw1).trans HZ.out.1
        have z1 := (BW.out.cell (p := ⟨w.heap.size + 1, 1, none⟩) hw1).trans HZ.out.2.1
        have z2 := (BW.out.cell (p := ⟨w.heap.size + 1, 2, none⟩) hw1).trans HZ.out.2.2.1
        have zf0 := (BW.out.frozen (p := ⟨w.heap.size + 1, 0, none⟩) hw1).trans (HZ.out.2.2.2 0)
        have zf1 := (BW.out.frozen (p := ⟨w.heap.size + 1, 1, none⟩) hw1).trans (HZ.out.2.2.2 1)
        have zf2 := (BW.out.frozen (p := ⟨w.heap.size + 1, 2, none⟩) hw1).trans (HZ.out.2.2.2 2)
        have BF := hid (B1.out.trans (BW.out.mono (Nat.le_of_lt (Nat.lt_of_succ_lt hw1))))
        have HWT := hid hwt
        have FA := hid (fun (j : Nat) (hj : j < w1.heap.size) => HWS.out.far j hj)
        have HW1 := hid hw1
        clear hown hwt hw1
        go_wp2_with fail
        obtain ⟨wf, hwf⟩ : ∃ wf : World, ((wr.setCell ⟨w.heap.size + 1, 0, none⟩ (.string nm)).setCell ⟨w.heap.size + 1, 1, none⟩ (.slice o2 ats.length cap2)).setCell ⟨w.heap.size + 1, 2, none⟩ (.slice tq rs'.length tcap) = wf := ⟨_, rfl⟩
        obtain ⟨r0, r1, r2⟩ := set3w z0 z1 z2 hwf
        have QA : RdE encT wf (.slice o2 ats.length cap2) ats := by
          rw [← hwf]; exact RdE.set3 AV9.out (FA.out _ HW1.out)
        have QR : RdC cR wf (.slice tq rs'.length tcap) rs' := by rw [← hwf]; exact RdC.set3 RT.out (TF.out _ (by have := HWT.out; have := HM.out; omega))
        have QV : ∀ r ∈ rs', RdV wf r.2.1 r.2.2 := fun r hr => by rw [← hwf]; exact RdC.set3 (HRS.out r hr).1 ((HRS.out r hr).2.2 _ (by have := HWT.out; omega))
        have QF : FreT w.heap.size (.slice o2 ats.length cap2) (.slice tq rs'.length tcap) rs' := fun j hj => ⟨FA.out j (by have := HW1.out; omega), TF.out j (by have := HWT.out; have := HM.out; omega), fun r hr => (HRS.out r hr).2.2 j (by have := HWT.out; omega)⟩
        have QB : Below w.heap.size w wf := by rw [← hwf]; exact ((BF.out.setCell (p := ⟨w.heap.size + 1, 0, none⟩) (by simp) _).setCell (p := ⟨w.heap.size + 1, 1, none⟩) (by simp) _).setCell (p := ⟨w.heap.size + 1, 2, none⟩) (by simp) _
        rw [hwf]
        exact bodyPost_ret (v := .agg #[.string nm, .slice o2 ats.length cap2, .slice tq rs'.length tcap]) (by simp [results, Tryd.results35, go_sem, r0, r1, r2]) rfl ⟨_, _, rs', rfl, ⟨QA, QR, QV⟩, HMf.out, QF, QB⟩

end Go.Proofs.YtkbegpnchamgkaaDoor
