/- Texts that belong together, in one file. -/
import Derived.Test.YtdiafhbbmliefaaGreatDoorGKmA
import Derived.Test.YtdiafhbbmliefaaGreatDoorApp0
import Derived.Deep.RegionLaw
import Derived.Deep.DeepCutAuto
import Derived.Test.YtdiafhbbmliefaaGreatDoorGTab20
import Derived.Test.YtdiafhbbmliefaaGreatDoorGTab27
import Derived.Test.YtdiafhbbmliefaaGreatDoorGMtA
/- The walks of drossref03.Has and cp. -/
namespace Go.Proofs.YtdiafhbbmliefaaGreatDoor
open Go.RowKit
set_option linter.unusedVariables false

theorem set2k {W : World} {b : Nat} {x y x' y' : Value} (h0 : W.cell? ⟨b, 0, none⟩ = some x') (h1 : W.cell? ⟨b, 1, none⟩ = some y') {W3 : World} (hW : (W.setCell ⟨b, 0, none⟩ x).setCell ⟨b, 1, none⟩ y = W3) :
    W3.cell? ⟨b, 0, none⟩ = some x ∧ W3.cell? ⟨b, 1, none⟩ = some y := by
  subst hW
  refine ⟨?_, ?_⟩
  · rw [World.cell?_setCell_other _ _ _ _ (by simp)]; exact World.cell?_setCell_same _ _ _ h0
  · exact World.cell?_setCell_same _ _ _ ((World.cell?_setCell_other _ _ _ _ (by simp)).trans h1)


/-- A table's rows, copied: what With leaves. -/
def cpAs (rs rs' : List Row3) : Prop := rs'.map (fun r => (r.1, r.2.2)) = rs.map (fun r => (r.1, r.2.2))
theorem infoStrK : (Tryz.prog.info? 9).map (fun i => (i.zero, i.size, i.bytes)) = some (some (.string (ByteArray.mk #[])), 1, 16) := by kernel_rfl
theorem undStrsK : Tryz.prog.underlying 28 = some (.slice 9) := by kernel_rfl
def cT1 (s : ByteArray) : List Value := [encT s]
theorem cT1_length (s : ByteArray) : (cT1 s).length = 1 := rfl
theorem cT1_one (s : ByteArray) : ∀ u ∈ cT1 s, u.oneCell' = true := by
  intro u hu
  simp only [cT1, List.mem_cons, List.not_mem_nil, or_false] at hu
  subst hu; rfl
theorem RdE.to_cells {w : World} {v : Value} {xs : List ByteArray} (h : RdE encT w v xs) : RdC cT1 w v xs := by
  obtain ⟨ao, cap, rfl, h1, h2, h3⟩ := h
  refine ⟨ao, cap, rfl, h1, h2, fun hp => ?_⟩
  obtain ⟨b, off, rfl, hb, hc⟩ := h3 hp
  refine ⟨b, off, rfl, hb, fun i x hi => ?_⟩
  have e : (xs.flatMap cT1) = xs.map encT := by rw [List.map_eq_flatMap]; rfl
  rw [e, List.getElem?_map] at hi
  cases hx : xs[i]? with
  | none => rw [hx] at hi; cases hi
  | some y =>
    rw [hx] at hi
    simp only [Option.map_some, Option.some.injEq] at hi
    subst hi
    exact hc i y hx
theorem RdC.to_texts {w : World} {v : Value} {xs : List ByteArray} (h : RdC cT1 w v xs) : RdE encT w v xs := by
  obtain ⟨ao, cap, rfl, h1, h2, h3⟩ := h
  refine ⟨ao, cap, rfl, h1, h2, fun hp => ?_⟩
  obtain ⟨b, off, rfl, hb, hc⟩ := h3 hp
  refine ⟨b, off, rfl, hb, fun i x hi => hc i (encT x) ?_⟩
  have e : (xs.flatMap cT1) = xs.map encT := by rw [List.map_eq_flatMap]; rfl
  rw [e, List.getElem?_map, hi]; rfl

end Go.Proofs.YtdiafhbbmliefaaGreatDoor


/- The walk of drossref03.With. -/
namespace Go.Proofs.YtdiafhbbmliefaaGreatDoor
open Go.RowKit
set_option linter.unusedVariables false

theorem KeptX.rdF {x : Nat} {a w : World} (h : KeptX a.heap.size x a w) (hM : a.heap.size ≤ w.heap.size) {α : Type} {f : α → Value} {v : Value} {xs : List α} (hr : RdE f a v xs) (hf : FarV v (some x)) : RdE f w v xs := by
  obtain ⟨ao, cap, rfl, h3, h4, h5⟩ := hr
  refine ⟨ao, cap, rfl, h3, h4, fun hp => ?_⟩
  obtain ⟨b, off, rfl, hlt, hc⟩ := h5 hp
  have hne : b ≠ x := fun e => hf _ _ _ rfl hp (by rw [e])
  refine ⟨b, off, rfl, by omega, fun j u hu => ?_⟩
  refine Eq.trans ?_ (hc j u hu)
  rcases Nat.lt_or_gt_of_ne hne with hlt2 | hgt
  · exact h.below.cell (p := ⟨b, off + j, none⟩) hlt2
  · exact h.cell hgt hlt

/-- What stands when With's table is laid: its box, its attributes. -/
structure WithS (w1 W : World) (tb : Nat) (nm : ByteArray) (v : Value) (ats : List ByteArray) : Prop where
  lo : w1.heap.size ≤ tb
  lt : tb < W.heap.size
  c0 : W.cell? ⟨tb, 0, none⟩ = some (.string nm)
  c1 : W.cell? ⟨tb, 1, none⟩ = some v
  c2 : W.cell? ⟨tb, 2, none⟩ = some (.slice none 0 0)
  fz : W.frozen? ⟨tb, 2, none⟩ = false
  rd : RdE encT W v ats
  far : ∀ j, j < w1.heap.size → FarV v (some j)
  ftb : FarV v (some tb)
  below : Below w1.heap.size w1 W

theorem far_type {w : World} {B g n : Nat} {e ty : TypeId} {size : Nat} {v : Value} {xs : List Value} {arr : Array Value} (h : w.ownsRow B e size v n xs) (hg : w.heap[g]? = some (.cells arr ty (0, 0))) (hne : ty ≠ e) : FarV v (some g) := by
  intro a len cap e1 hl e2
  rcases h.2 with ⟨rfl, -⟩ | ⟨g', cap', cur, e3, -, h4, -⟩
  · cases e1
  · rw [e3] at e1; cases e1; cases e2
    rw [hg] at h4; injection h4 with h5; injection h5 with h6 h7; exact hne h7
theorem far_new {w : World} {α : Type} {c : α → List Value} {v : Value} {xs : List α} (h : RdC c w v xs) : FarV v (some w.heap.size) := by
  intro a len cap e1 hl e2
  obtain ⟨ao', cap', e3, -, -, h3⟩ := h
  rw [e3] at e1; cases e1
  obtain ⟨b9, off9, e4, hlt9, -⟩ := h3 hl
  cases e4; simp at e2; omega
theorem WithS.mk_alloc {w1 w2 : World} {nm : ByteArray} {v : Value} {ats : List ByteArray} (hb : Below w1.heap.size w1 w2) (ho : w2.ownsRow w1.heap.size 9 1 v ats.length (ats.flatMap cT1)) (hl : ats.length ≤ 1000) :
    WithS w1 (w2.alloc (.cells #[.string nm, v, .slice none 0 0] 48)) w2.heap.size nm v ats := by
  obtain ⟨z0, z1, z2⟩ := cells3 (w := w2) (a := .string nm) (b := v) (c := .slice none 0 0) (t := 48) _ (Below.refl _ _)
  have hr := RdC.of_owns cT1_length ho (by omega)
  exact ⟨hb.size, by simp, z0, z1, z2, by simp, RdC.to_texts (RdC.below hr (below_alloc _ _)), fun j hj => far_own ho hj, far_new hr, hb.alloc hb.size _⟩
theorem WithS.mk_set {w1 w2 : World} {nm : ByteArray} {v a0 b0 c0 : Value} {ats : List ByteArray} {tb : Nat} {arr : Array Value} (hb : Below w1.heap.size w1 w2) (ho : w2.ownsRow w1.heap.size 9 1 v ats.length (ats.flatMap cT1)) (hl : ats.length ≤ 1000)
    (ht : w2.heap[tb]? = some (.cells arr 48 (0, 0))) (h1 : w1.heap.size ≤ tb) (z0 : w2.cell? ⟨tb, 0, none⟩ = some a0) (z1 : w2.cell? ⟨tb, 1, none⟩ = some b0) (z2 : w2.cell? ⟨tb, 2, none⟩ = some c0) (zf : w2.frozen? ⟨tb, 2, none⟩ = false) :
    WithS w1 (((w2.setCell ⟨tb, 0, none⟩ (.string nm)).setCell ⟨tb, 1, none⟩ v).setCell ⟨tb, 2, none⟩ (.slice none 0 0)) tb nm v ats := by
  have hf := far_type ho ht (by decide)
  have hr := RdC.to_texts (RdC.of_owns cT1_length ho (by omega))
  obtain ⟨wf, hwf⟩ : ∃ wf : World, ((w2.setCell ⟨tb, 0, none⟩ (.string nm)).setCell ⟨tb, 1, none⟩ v).setCell ⟨tb, 2, none⟩ (.slice none 0 0) = wf := ⟨_, rfl⟩
  obtain ⟨r0, r1, r2⟩ := set3w z0 z1 z2 hwf
  have hlt : tb < w2.heap.size := World.block_lt_of_cell? _ _ z0
  refine ⟨h1, ?_, by rw [hwf]; exact r0, by rw [hwf]; exact r1, by rw [hwf]; exact r2, ?_, ?_, fun j hj => far_own ho hj, hf, ?_⟩
  · simp; exact hlt
  · simp [zf]
  · exact RdE.set3 hr hf
  · exact ((hb.setCell (p := ⟨tb, 0, none⟩) h1 _).setCell (p := ⟨tb, 1, none⟩) h1 _).setCell (p := ⟨tb, 2, none⟩) h1 _


end Go.Proofs.YtdiafhbbmliefaaGreatDoor


/- The walks of slices.Clone at strings and at values, and of table.copied. -/
namespace Go.Proofs.YtdiafhbbmliefaaGreatDoor
open Go.RowKit
set_option linter.unusedVariables false

theorem cloneT_any (xs : List ByteArray) (v : Value) (w : World) (hv : RdC cT1 w v xs) (h44 : xs.length < 2199023255552) :
    Calls Tryz.prog 24 #[v] w fun e w' => ∃ v', e = .returned v' ∧ w'.ownsRow w.heap.size 9 1 v' xs.length (xs.flatMap cT1) ∧ Below w.heap.size w w' := by
  obtain ⟨ao, cap, rfl, h1, h2, h3⟩ := hv
  have heq := fun (a : Option Addr) (n c : Nat) (w : World) => Lib.run_eql_slice_nil (P := Tryz.prog) w 28 9 a n c 0 0 undStrsK
  cases ao with
  | none =>
    have hx : xs = [] := by
      cases xs with
      | nil => rfl
      | cons x l => obtain ⟨b, off, h, _⟩ := h3 (by simp); cases h
    subst hx
    clear h3
    go_enter Tryz.func24, Tryz.ntmps24
    go_wp2_with fail
    go_ret
    exact ⟨_, rfl, World.ownsRow_nil _ _ _ _, Below.refl _ _⟩
  | some a =>
    obtain ⟨i, hi, hz0, hz1, hz2⟩ := info_parts infoStrK
    have hlen := flat_length cT1_length xs
    have hcells : ∀ (j : Nat) (u : Value), (xs.flatMap cT1)[j]? = some u → w.cell? (a.add j) = some u := by
      intro j u hu
      have hj : j < (xs.flatMap cT1).length := (List.getElem?_eq_some_iff.1 hu).1
      obtain ⟨b, off, e, _, hc⟩ := h3 (by omega)
      cases e
      rw [Addr.add_lit]
      exact hc j u hu
    have hcells2 : ∀ (j : Nat) (u : Value), (xs.flatMap cT1)[j]? = some u → (w.alloc (.cells #[] 9)).cell? (a.add j) = some u := fun j u hu => World.cell?_alloc_lt _ _ _ (World.block_lt_of_cell? _ _ (hcells j u hu)) |>.trans (hcells j u hu)
    have HC := hid hcells2
    have hown := World.ownsRow_lit (size := 1) (e := 9) w #[] 0 (Nat.le_refl _) (Nat.zero_le _) rfl
    clear hcells hcells2 h3
    go_enter Tryz.func24, Tryz.ntmps24
    have s1 : ∀ u ∈ xs.flatMap cT1, u.oneCell' = true := by
      intro u hu
      obtain ⟨x, _, hx⟩ := List.mem_flatMap.1 hu
      exact cT1_one x u hx
    have S1 := hid s1
    have HL := hid hlen
    clear s1 hlen
    go_wp2_with (at_builtin; refine wpList_append_own _ rfl _ _ 28 rfl w.heap.size 9 i (.string (ByteArray.mk #[])) 1 16 undStrsK hi hz0 hz1 hz2 rfl (by decide) _ _ _ rfl hown a xs.length cap (xs.flatMap cT1) rfl HL.out HC.out S1.out (by unfold maxLen; omega) (by omega) (by simp) ?_)
    · intro v' w1 h1' hg _
      have B : Below w.heap.size w w1 := ((Below.refl _ w).alloc (Nat.le_refl _) _).grown hg (by simp) (fun k hk => by simp [Value.ownBlock] at hk; omega)
      have BB := hid B
      clear B hg
      have H := hid h1'
      clear h1'
      go_wp2_with fail
      go_ret
      exact ⟨_, rfl, by simpa using H.out, BB.out⟩

theorem cloneV_any (xs : List V3) (v : Value) (w : World) (hv : RdV w v xs) (h44 : xs.length < 2199023255552) :
    Calls Tryz.prog 34 #[v] w fun e w' => ∃ v', e = .returned v' ∧ w'.ownsRow w.heap.size 37 3 v' xs.length (xs.flatMap cV) ∧ Below w.heap.size w w' := by
  obtain ⟨ao, cap, rfl, h1, h2, h3⟩ := hv
  have heq := fun (a : Option Addr) (n c : Nat) (w : World) => Lib.run_eql_slice_nil (P := Tryz.prog) w 42 37 a n c 0 0 undVs
  cases ao with
  | none =>
    have hx : xs = [] := by
      cases xs with
      | nil => rfl
      | cons x l => obtain ⟨b, off, h, _⟩ := h3 (by simp); cases h
    subst hx
    clear h3
    go_enter Tryz.func34, Tryz.ntmps34
    go_wp2_with fail
    go_ret
    exact ⟨_, rfl, World.ownsRow_nil _ _ _ _, Below.refl _ _⟩
  | some a =>
    obtain ⟨i, hi, hz0, hz1, hz2⟩ := info_parts infoV
    have hlen := flat_length cV_length xs
    have hcells : ∀ (j : Nat) (u : Value), (xs.flatMap cV)[j]? = some u → w.cell? (a.add j) = some u := by
      intro j u hu
      have hj : j < (xs.flatMap cV).length := (List.getElem?_eq_some_iff.1 hu).1
      obtain ⟨b, off, e, _, hc⟩ := h3 (by omega)
      cases e
      rw [Addr.add_lit]
      exact hc j u hu
    have hcells2 : ∀ (j : Nat) (u : Value), (xs.flatMap cV)[j]? = some u → (w.alloc (.cells #[] 37)).cell? (a.add j) = some u := fun j u hu => World.cell?_alloc_lt _ _ _ (World.block_lt_of_cell? _ _ (hcells j u hu)) |>.trans (hcells j u hu)
    have HC := hid hcells2
    have hown := World.ownsRow_lit (size := 3) (e := 37) w #[] 0 (Nat.le_refl _) (Nat.zero_le _) rfl
    clear hcells hcells2 h3
    go_enter Tryz.func34, Tryz.ntmps34
    have s1 : ∀ u ∈ xs.flatMap cV, u.oneCell' = true := by
      intro u hu
      obtain ⟨x, _, hx⟩ := List.mem_flatMap.1 hu
      exact cV_one x u hx
    have S1 := hid s1
    have HL := hid hlen
    clear s1 hlen
    go_wp2_with (at_builtin; refine wpList_append_own _ rfl _ _ 42 rfl w.heap.size 37 i (.agg #[.int .i64 0, .int .i64 0, .string (ByteArray.mk #[])]) 3 32 undVs hi hz0 hz1 hz2 rfl (by decide) _ _ _ rfl hown a xs.length cap (xs.flatMap cV) rfl HL.out HC.out S1.out (by unfold maxLen; omega) (by omega) (by simp) ?_)
    · intro v' w1 h1' hg _
      have B : Below w.heap.size w w1 := ((Below.refl _ w).alloc (Nat.le_refl _) _).grown hg (by simp) (fun k hk => by simp [Value.ownBlock] at hk; omega)
      have BB := hid B
      clear B hg
      have H := hid h1'
      clear h1'
      go_wp2_with fail
      go_ret
      exact ⟨_, rfl, by simpa using H.out, BB.out⟩

set_option maxHeartbeats 1600000 in
set_option maxRecDepth 100000 in
theorem tcopied_any (id : Int) (xs : List V3) (u : Value) (w : World) (hu : RdV w u xs) (hl : xs.length ≤ 1000) :
    Calls Tryz.prog 75 #[.agg #[.int .i64 id, u]] w fun e w' => ∃ v', e = .returned (.agg #[.int .i64 id, v']) ∧ w'.ownsRow w.heap.size 37 3 v' xs.length (xs.flatMap cV) ∧ Below w.heap.size w w' := by
  obtain ⟨uo, ucap, rfl, -⟩ := RdV.split hu
  obtain ⟨c0, c1⟩ := cells2 (w := w) (a := .int .i64 id) (b := .slice uo xs.length ucap) (t := 44) _ (Below.refl _ _)
  have hb0 := below_alloc w (.cells #[.int .i64 id, .slice uo xs.length ucap] 44)
  obtain ⟨w0, hw0⟩ : ∃ w0 : World, w.alloc (.cells #[.int .i64 id, .slice uo xs.length ucap] 44) = w0 := ⟨_, rfl⟩
  have hs0 : w0.heap.size = w.heap.size + 1 := by rw [← hw0]; simp
  rw [hw0] at c0 c1 hb0
  obtain ⟨z0, z1⟩ := cells2 (w := w0) (a := .int .i64 0) (b := .slice none 0 0) (t := 44) _ (Below.refl _ _)
  have zf : ∀ j, (w0.alloc (.cells #[.int .i64 0, .slice none 0 0] 44)).frozen? ⟨w0.heap.size, j, none⟩ = false := fun j => by simp
  have hb1 := below_alloc w0 (.cells #[.int .i64 0, .slice none 0 0] 44)
  obtain ⟨w1, hw1⟩ : ∃ w1 : World, w0.alloc (.cells #[.int .i64 0, .slice none 0 0] 44) = w1 := ⟨_, rfl⟩
  have hs1 : w1.heap.size = w.heap.size + 1 + 1 := by rw [← hw1]; simp [hs0]
  rw [hw1] at z0 z1 zf hb1
  rw [hs0] at z0 z1 zf
  replace c0 := (hb1.cell (p := ⟨w.heap.size, 0, none⟩) (by show w.heap.size < _; omega)).trans c0
  replace c1 := (hb1.cell (p := ⟨w.heap.size, 1, none⟩) (by show w.heap.size < _; omega)).trans c1
  have B1 := hid (hb0.trans (hb1.mono (by omega)))
  have W0 := hid hw0
  have W1 := hid hw1
  have HS1 := hid hs1
  have CL := hid (fun (W : World) (h : Below w1.heap.size w1 W) => cloneV_any xs (.slice uo xs.length ucap) W (RdC.below (RdC.below hu B1.out) h) (by omega))
  have ZZ := hid (fun (W : World) (h : Below w1.heap.size w1 W) => show W.cell? ⟨w.heap.size + 1, 0, none⟩ = some (.int .i64 0) ∧ W.cell? ⟨w.heap.size + 1, 1, none⟩ = some (.slice none 0 0) ∧ W.frozen? ⟨w.heap.size + 1, 0, none⟩ = false ∧ W.frozen? ⟨w.heap.size + 1, 1, none⟩ = false ∧ W.cell? ⟨w.heap.size, 0, none⟩ = some (.int .i64 id) from by
    have lt1 : w.heap.size + 1 < w1.heap.size := by omega
    have lt2 : w.heap.size < w1.heap.size := by omega
    exact ⟨(h.cell (p := ⟨w.heap.size + 1, 0, none⟩) lt1).trans z0, (h.cell (p := ⟨w.heap.size + 1, 1, none⟩) lt1).trans z1, (h.frozen (p := ⟨w.heap.size + 1, 0, none⟩) lt1).trans (zf 0), (h.frozen (p := ⟨w.heap.size + 1, 1, none⟩) lt1).trans (zf 1), (h.cell (p := ⟨w.heap.size, 0, none⟩) lt2).trans c0⟩)
  have HL := hid hl
  clear hu hb0 hb1 hw0 hw1 hs0 hs1 z0 z1 zf hl
  go_enter Tryz.func75, Tryz.ntmps75
  go_wp2_with fail
  rw [W0.out, W1.out]
  go_region_law ((go_simp; go_at_call 34; refine (CL.out _ (below_drewN w1.heap.size w1 1)).mono ?_; rintro e w2 ⟨v2, rfl, ho2, hb2⟩; have hL := (below_drewN w1.heap.size w1 1).trans hb2; obtain ⟨o2, cap2, rfl, -⟩ := RdC.of_owns cV_length ho2 (by have := HL.out; omega); obtain ⟨y0, y1, yf0, yf1, yb⟩ := ZZ.out w2 hL; clear hb2))
  all_goals
    have ho3 : w2.ownsRow w1.heap.size 37 3 (.slice o2 xs.length cap2) xs.length (xs.flatMap cV) := by simpa using ho2
    have hnb : (Value.slice o2 xs.length cap2).ownBlock ≠ some (w.heap.size + 1) := fun e => by have := (ho3.lt _ e).1; have := HS1.out; omega
    have hb2 : Below w.heap.size w w2 := B1.out.trans (hL.mono (by have := HS1.out; omega))
    obtain ⟨wf, hwf⟩ : ∃ wf : World, (w2.setCell ⟨w.heap.size + 1, 0, none⟩ (.int .i64 id)).setCell ⟨w.heap.size + 1, 1, none⟩ (.slice o2 xs.length cap2) = wf := ⟨_, rfl⟩
    have r := set2k y0 y1 hwf
    have QO : wf.ownsRow w.heap.size 37 3 (.slice o2 xs.length cap2) xs.length (xs.flatMap cV) := by rw [← hwf]; exact own_mono (ownsRow_setCell_other (ownsRow_setCell_other ho3 hnb _) hnb _) (by have := HS1.out; omega)
    have QB : Below w.heap.size w wf := by rw [← hwf]; exact (hb2.setCell (p := ⟨w.heap.size + 1, 0, none⟩) (by simp) _).setCell (p := ⟨w.heap.size + 1, 1, none⟩) (by simp) _
    go_wp2_with fail
    try rw [hwf]
    exact bodyPost_ret (v := .agg #[.int .i64 id, .slice o2 xs.length cap2]) (by simp [results, Tryz.results75, go_sem, r.1, r.2]) rfl ⟨_, rfl, QO, QB⟩

end Go.Proofs.YtdiafhbbmliefaaGreatDoor


/- The walk of table.with. -/
namespace Go.Proofs.YtdiafhbbmliefaaGreatDoor
open Go.RowKit
set_option linter.unusedVariables false

/-- Rows of the call's own, each with values of the call's own, all apart. -/
structure OwnTR (w : World) (B : Nat) (tv : Value) (rs : List Row3) : Prop where
  rows : w.ownsRow B 44 2 tv rs.length (rs.flatMap cR)
  vals : ∀ r ∈ rs, w.ownsRow B 37 3 r.2.1 r.2.2.length (r.2.2.flatMap cV)
  apart : rs.Pairwise fun r q => r.2.1.ownBlock = none ∨ r.2.1.ownBlock ≠ q.2.1.ownBlock
theorem OwnTR.below {w w' : World} {B : Nat} {tv : Value} {rs : List Row3} (h : OwnTR w B tv rs) (hb : Below w.heap.size w w') : OwnTR w' B tv rs := ⟨own_below h.rows hb, fun r hr => own_below (h.vals r hr) hb, h.apart⟩
theorem OwnTR.set {w : World} {B b o : Nat} {tv : Value} {rs : List Row3} (h : OwnTR w B tv rs) (hb : b < B) (x : Value) : OwnTR (w.setCell ⟨b, o, none⟩ x) B tv rs :=
  ⟨ownsRow_setCell_other h.rows (a := ⟨b, o, none⟩) (fun e => absurd (h.rows.lt _ e).1 (Nat.not_le.2 hb)) _, fun r hr => ownsRow_setCell_other (h.vals r hr) (a := ⟨b, o, none⟩) (fun e => absurd ((h.vals r hr).lt _ e).1 (Nat.not_le.2 hb)) _, h.apart⟩
theorem OwnTR.push {w w' : World} {B M : Nat} {tv tv' : Value} {rs : List Row3} {y : Row3} (h : OwnTR w B tv rs) (hB : B ≤ M) (hM : ∀ r ∈ rs, ∀ j, r.2.1.ownBlock = some j → j < M) (hy : w.ownsRow M 37 3 y.2.1 y.2.2.length (y.2.2.flatMap cV)) (hg : w.grownBy w' tv.ownBlock)
    (ho : w'.ownsRow B 44 2 tv' (rs ++ [y]).length ((rs ++ [y]).flatMap cR)) : OwnTR w' B tv' (rs ++ [y]) := by
  refine ⟨ho, fun r hr => ?_, ?_⟩
  · rcases List.mem_append.1 hr with hm | hm
    · exact (h.vals r hm).kept hg (own_neM (h.vals r hm) h.rows (by decide))
    · obtain rfl := List.mem_singleton.1 hm
      exact own_mono (hy.kept hg (own_neM hy h.rows (by decide))) hB
  · rw [List.pairwise_append]
    refine ⟨h.apart, List.pairwise_singleton _ _, fun r hr q hq => ?_⟩
    obtain rfl := List.mem_singleton.1 hq
    cases hb : r.2.1.ownBlock with
    | none => exact .inl rfl
    | some j =>
      refine .inr fun e => ?_
      have h1 := hM r hr j hb
      have h2 := (hy.lt j e.symm).1
      omega
theorem OwnTR.rd {w : World} {B : Nat} {tv : Value} {rs : List Row3} (h : OwnTR w B tv rs) (h1 : rs.length ≤ 1000) (h2 : ∀ r ∈ rs, r.2.2.length ≤ 1000) : RdR w tv rs :=
  ⟨RdC.of_owns cR_length h.rows (by omega), fun r hr => RdC.of_owns cV_length (h.vals r hr) (by have := h2 r hr; omega)⟩
theorem OwnTR.far {w : World} {B : Nat} {tv : Value} {rs : List Row3} (h : OwnTR w B tv rs) {j : Nat} (hj : j < B) : FarV tv (some j) ∧ ∀ r ∈ rs, FarV r.2.1 (some j) :=
  ⟨far_own h.rows hj, fun r hr => far_own (h.vals r hr) hj⟩
theorem cpAs.len {rs rs' : List Row3} (h : cpAs rs rs') : rs'.length = rs.length := by have := congrArg List.length h; simpa using this
theorem cpAs.vals {rs rs' : List Row3} (h : cpAs rs rs') {n : Nat} (hv : ∀ r ∈ rs, r.2.2.length ≤ n) : ∀ r ∈ rs', r.2.2.length ≤ n := by
  intro r hr
  have h1 : (r.1, r.2.2) ∈ rs'.map (fun r => (r.1, r.2.2)) := List.mem_map.2 ⟨r, hr, rfl⟩
  rw [h] at h1
  obtain ⟨q, hq, e⟩ := List.mem_map.1 h1
  have h2 := congrArg (fun x => x.2.length) e
  simp only at h2
  rw [← h2]; exact hv q hq

set_option maxHeartbeats 6400000 in
set_option maxRecDepth 100000 in
theorem twith_any (nm : ByteArray) (ats : List ByteArray) (av rv0 : Value) (rs : List Row3) (v : Value) (w : World) (ha : RdE encT w av ats) (hr : RdR w v rs) (hla : ats.length ≤ 1000) (hlr : rs.length ≤ 1000) (hv1 : ∀ r ∈ rs, r.2.2.length ≤ 1000) :
    Calls Tryz.prog 65 #[.agg #[.string nm, av, rv0], v] w fun e w' => ∃ (av' tv : Value) (rs' : List Row3) (M : Nat), e = .returned (.agg #[.string nm, av', tv]) ∧ RdE encT w' av' ats ∧ (∀ j, j < w.heap.size ∨ M ≤ j → FarV av' (some j)) ∧ w.heap.size ≤ M ∧ M ≤ w'.heap.size ∧ OwnTR w' M tv rs' ∧ cpAs rs rs' ∧ Below w.heap.size w w' := by
  have CP := hid (fun (id : Int) (xs : List V3) (u : Value) (W : World) (hu : RdV W u xs) (hl : xs.length ≤ 1000) => tcopied_any id xs u W hu hl)
  have IW := hid (show ∀ x : Int, 0 ≤ x → x ≤ 1000 → IntKind.i64.wrap x = x from fun x h0 h1 => by rw [IntKind.wrap_i64]; omega)
  obtain ⟨c0, c1, c2⟩ := cells3 (w := w) (a := .string nm) (b := av) (c := rv0) (t := 48) _ (Below.refl _ _)
  have hb0 := below_alloc w (.cells #[.string nm, av, rv0] 48)
  obtain ⟨w0, hw0⟩ : ∃ w0 : World, w.alloc (.cells #[.string nm, av, rv0] 48) = w0 := ⟨_, rfl⟩
  have hs0 : w0.heap.size = w.heap.size + 1 := by rw [← hw0]; simp
  rw [hw0] at c0 c1 c2 hb0
  obtain ⟨z0, z1, z2⟩ := cells3 (w := w0) (a := .string (ByteArray.mk #[])) (b := .slice none 0 0) (c := .slice none 0 0) (t := 48) _ (Below.refl _ _)
  have zf : ∀ j, (w0.alloc (.cells #[.string (ByteArray.mk #[]), .slice none 0 0, .slice none 0 0] 48)).frozen? ⟨w0.heap.size, j, none⟩ = false := fun j => by simp
  have hb1 := below_alloc w0 (.cells #[.string (ByteArray.mk #[]), .slice none 0 0, .slice none 0 0] 48)
  obtain ⟨w1, hw1⟩ : ∃ w1 : World, w0.alloc (.cells #[.string (ByteArray.mk #[]), .slice none 0 0, .slice none 0 0] 48) = w1 := ⟨_, rfl⟩
  have hs1 : w1.heap.size = w.heap.size + 1 + 1 := by rw [← hw1]; simp [hs0]
  rw [hw1] at z0 z1 z2 zf hb1
  rw [hs0] at z0 z1 z2 zf
  replace c0 := (hb1.cell (p := ⟨w.heap.size, 0, none⟩) (by show w.heap.size < _; omega)).trans c0
  replace c1 := (hb1.cell (p := ⟨w.heap.size, 1, none⟩) (by show w.heap.size < _; omega)).trans c1
  replace c2 := (hb1.cell (p := ⟨w.heap.size, 2, none⟩) (by show w.heap.size < _; omega)).trans c2
  have B1 := hid (hb0.trans (hb1.mono (by omega)))
  have W0 := hid hw0
  have W1 := hid hw1
  have HS1 := hid hs1
  have HA := hid (RdE.to_cells (ha.below B1.out))
  have HR := hid (hr.below B1.out)
  have HZ := hid (And.intro z0 (And.intro z1 (And.intro z2 zf)))
  have HV1 := hid hv1
  have HLA := hid hla
  have HLR := hid hlr
  obtain ⟨ro, rcap, rfl, -, hrc⟩ := RdR.split HR.out
  have RC := hid hrc
  clear ha hr hb0 hb1 hw0 hw1 hs0 hs1 z0 z1 z2 zf hrc hv1 hla hlr
  have CB := hid (And.intro c0 (And.intro c1 c2))
  have KK := hid (fun (W : World) (h1 : Below w1.heap.size w1 W) => show W.cell? ⟨w.heap.size, 0, none⟩ = some (.string nm) ∧ W.cell? ⟨w.heap.size, 1, none⟩ = some av ∧ (∀ o, (W.alloc o).cell? ⟨w.heap.size, 0, none⟩ = some (.string nm)) ∧ (∀ o, (W.alloc o).cell? ⟨w.heap.size, 1, none⟩ = some av) from by
    have hlt : w.heap.size < w1.heap.size := by have := HS1.out; omega
    have e0 : W.cell? ⟨w.heap.size, 0, none⟩ = some (.string nm) := (h1.cell (p := ⟨w.heap.size, 0, none⟩) hlt).trans CB.out.1
    have e1 : W.cell? ⟨w.heap.size, 1, none⟩ = some av := (h1.cell (p := ⟨w.heap.size, 1, none⟩) hlt).trans CB.out.2.1
    have hl2 : w.heap.size < W.heap.size := Nat.lt_of_lt_of_le hlt h1.size
    exact ⟨e0, e1, fun o => ((below_alloc W o).cell (p := ⟨w.heap.size, 0, none⟩) hl2).trans e0, fun o => ((below_alloc W o).cell (p := ⟨w.heap.size, 1, none⟩) hl2).trans e1⟩)
  have ka0 : ∀ o, (w1.alloc o).cell? ⟨w.heap.size, 0, none⟩ = some (.string nm) := fun o => ((below_alloc w1 o).cell (p := ⟨w.heap.size, 0, none⟩) (by have := HS1.out; show w.heap.size < _; omega)).trans c0
  have ka1 : ∀ o, (w1.alloc o).cell? ⟨w.heap.size, 1, none⟩ = some av := fun o => ((below_alloc w1 o).cell (p := ⟨w.heap.size, 1, none⟩) (by have := HS1.out; show w.heap.size < _; omega)).trans c1
  have kb0 : ∀ o o', ((w1.alloc o).alloc o').cell? ⟨w.heap.size, 0, none⟩ = some (.string nm) := fun o o' => ((below_alloc (w1.alloc o) o').cell (p := ⟨w.heap.size, 0, none⟩) (by have := HS1.out; show w.heap.size < _; simp; omega)).trans (ka0 o)
  have kb1 : ∀ o o', ((w1.alloc o).alloc o').cell? ⟨w.heap.size, 1, none⟩ = some av := fun o o' => ((below_alloc (w1.alloc o) o').cell (p := ⟨w.heap.size, 1, none⟩) (by have := HS1.out; show w.heap.size < _; simp; omega)).trans (ka1 o)
  have CT := hid (fun (W : World) (h : Below w1.heap.size w1 W) => cloneT_any ats av W (RdC.below HA.out h) (by have := HLA.out; omega))
  have Y3 := hid (show Below w1.heap.size w1 ((w1.drewN 1).alloc (.cells #[.string (ByteArray.mk #[]), .slice none 0 0, .slice none 0 0] 48)) from (below_drewN w1.heap.size w1 1).alloc (by simp) _)
  have TZ3 := hid (fun (W : World) (h : Below ((w1.drewN 1).alloc (.cells #[.string (ByteArray.mk #[]), .slice none 0 0, .slice none 0 0] 48)).heap.size ((w1.drewN 1).alloc (.cells #[.string (ByteArray.mk #[]), .slice none 0 0, .slice none 0 0] 48)) W) => show (W.cell? ⟨w1.heap.size, 0, none⟩ = some (.string (ByteArray.mk #[])) ∧ W.cell? ⟨w1.heap.size, 1, none⟩ = some (.slice none 0 0) ∧ W.cell? ⟨w1.heap.size, 2, none⟩ = some (.slice none 0 0)) ∧ W.frozen? ⟨w1.heap.size, 0, none⟩ = false ∧ W.frozen? ⟨w1.heap.size, 1, none⟩ = false ∧ W.frozen? ⟨w1.heap.size, 2, none⟩ = false ∧ W.heap[w1.heap.size]? = some (.cells #[.string (ByteArray.mk #[]), .slice none 0 0, .slice none 0 0] 48 (0, 0)) from by
    have hc := cells3 (w := w1.drewN 1) (a := .string (ByteArray.mk #[])) (b := .slice none 0 0) (c := .slice none 0 0) (t := 48) W h
    have hn := heap_alloc_new (w1.drewN 1) (.cells #[.string (ByteArray.mk #[]), .slice none 0 0, .slice none 0 0] 48)
    have hf : ∀ j, ((w1.drewN 1).alloc (.cells #[.string (ByteArray.mk #[]), .slice none 0 0, .slice none 0 0] 48)).frozen? ⟨w1.heap.size, j, none⟩ = false := fun j => by
      have := World.frozen?_alloc_new (w1.drewN 1) #[.string (ByteArray.mk #[]), .slice none 0 0, .slice none 0 0] 48 j
      simpa using this
    have hlt : w1.heap.size < ((w1.drewN 1).alloc (.cells #[.string (ByteArray.mk #[]), .slice none 0 0, .slice none 0 0] 48)).heap.size := by simp
    have hs : (w1.drewN 1).heap.size = w1.heap.size := rfl
    rw [hs] at hc hn
    exact ⟨hc, (h.frozen (p := ⟨w1.heap.size, 0, none⟩) hlt).trans (hf 0), (h.frozen (p := ⟨w1.heap.size, 1, none⟩) hlt).trans (hf 1), (h.frozen (p := ⟨w1.heap.size, 2, none⟩) hlt).trans (hf 2), (h.block w1.heap.size hlt).trans hn⟩)
  clear c0 c1 c2
  obtain ⟨c0, c1, c2⟩ := CB.out
  go_enter Tryz.func65, Tryz.ntmps65
  go_upto_region 1 with fail
  rw [W0.out, W1.out]
  go_cut [5] (fun s5 wx => ∃ tb o2 cap2, s5 = .pointer (some ⟨tb, 0, none⟩) ∧ WithS w1 wx tb nm (.slice o2 ats.length cap2) ats)
  case first =>
    go_region_law (first
      | (go_simp; go_at_call 24; refine (CT.out _ (below_drewN w1.heap.size w1 1)).mono ?_; rintro e w2 ⟨v2, rfl, ho2, hb2⟩; have hL := (below_drewN w1.heap.size w1 1).trans hb2; obtain ⟨o2, cap2, rfl, -⟩ := RdC.of_owns cT1_length ho2 (by have := HLA.out; omega); obtain ⟨yb0, yb1, yb2, yb3⟩ := KK.out w2 hL; have WS := hid (WithS.mk_alloc (nm := nm) (v := .slice o2 ats.length cap2) (ats := ats) hL ho2 HLA.out))
      | (go_simp; go_at_call 24; refine (CT.out _ Y3.out).mono ?_; rintro e w2 ⟨v2, rfl, ho2, hb2⟩; have hL := Y3.out.trans (hb2.mono Y3.out.size); obtain ⟨o2, cap2, rfl, -⟩ := RdC.of_owns cT1_length ho2 (by have := HLA.out; omega); obtain ⟨yb0, yb1, yb2, yb3⟩ := KK.out w2 hL; obtain ⟨⟨yt0, yt1, yt2⟩, yf0, yf1, yf2, yty⟩ := TZ3.out w2 hb2; have WS := hid (WithS.mk_set (nm := nm) (v := .slice o2 ats.length cap2) (ats := ats) hL (own_mono ho2 Y3.out.size) HLA.out yty (Nat.le_refl _) yt0 yt1 yt2 yf2); clear yty))
    all_goals (go_wp2_with fail; go_meet; exact ⟨_, _, _, rfl, WS.out⟩)
  case rest =>
    obtain ⟨tb, o2, cap2, rfl, hws⟩ := hcut
    have HWS := hid hws
    have HM := hid hws.lt
    have hr0 := hid (hws.below)
    have RC2 := hid (fun (k : Nat) (r : Row3) (hr : rs[k]? = some r) => show (∃ b off, ro = some ⟨b, off, none⟩ ∧ b < w1.heap.size ∧ ∀ wr, Below w1.heap.size w1 wr → wr.cell? ⟨b, off + k * 2, none⟩ = some (.int .i64 r.1) ∧ wr.cell? ⟨b, off + k * 2 + 1, none⟩ = some r.2.1) ∧ ∀ wr, Below w1.heap.size w1 wr → RdV wr r.2.1 r.2.2 from by
      obtain ⟨⟨b, off, e1, e2⟩, e3⟩ := RC.out k r hr
      have e4 := e2 w1 (Below.refl _ _)
      exact ⟨⟨b, off, e1, World.block_lt_of_cell? _ _ e4.1, fun wr h => e2 wr h⟩, fun wr h => e3 wr h⟩)
    clear hws ka0 ka1 kb0 kb1 Y3 TZ3 KK CT
    go_wp2_with fail
    go_loopw [16] (fun i wr => ∃ (k : Nat) (rs' : List Row3) (tv : Value), k ≤ rs.length ∧ i = .int .i64 k ∧ (wr.cell? ⟨tb, 0, none⟩ = some (.string nm) ∧ wr.cell? ⟨tb, 1, none⟩ = some (.slice o2 ats.length cap2) ∧ wr.cell? ⟨tb, 2, none⟩ = some tv) ∧ wr.frozen? ⟨tb, 2, none⟩ = false ∧ Hid (OwnTR wr wc.heap.size tv rs') ∧ Hid (cpAs (rs.take k) rs') ∧ Hid (KeptX wc.heap.size tb wc wr) ∧ wc.heap.size ≤ wr.heap.size) (fun i _ => rs.length - (intOf i).toNat)
    case atStart => exact ⟨0, [], _, by omega, rfl, ⟨HWS.out.c0, HWS.out.c1, HWS.out.c2⟩, HWS.out.fz, hid ⟨World.ownsRow_nil _ _ _ _, fun _ h => absurd h (by simp), List.Pairwise.nil⟩, hid rfl, hid (KeptX.refl _ _ _), Nat.le_refl _⟩
    case round =>
      obtain ⟨k, rs', tv, hk, rfl, ⟨t0, t1, t2⟩, tf, OTR, HMP, HKX, hM6⟩ := hrel
      have hso : tb < wr.heap.size := World.block_lt_of_cell? _ _ t0
      have HLQ := hid (show rs'.length ≤ k by have := HMP.out.len; have h2 := List.length_take_le k rs; omega)
      have HRL := hid (show rs'.length ≤ 1000 by have := HLQ.out; have := HLR.out; omega)
      have BW := hid (show Below w1.heap.size w1 wr from hr0.out.trans (HKX.out.below.mono HWS.out.lo))
      have k0 : (0 : Int) ≤ (k : Int) := by omega
      have k9 : (k : Int) ≤ 1000 := by have := HLR.out; omega
      by_cases hlt : k < rs.length
      · obtain ⟨⟨id, u, xs⟩, hx⟩ := get_some hlt
        obtain ⟨⟨b, off, rfl, hbl, hce⟩, hrv⟩ := RC2.out k (id, u, xs) hx
        obtain ⟨e0, e1⟩ := hce wr BW.out
        have HRV := hid (hrv wr BW.out)
        have HXL := hid (HV1.out _ (List.mem_of_getElem? hx))
        have EXK := hid hx
        simp only at e0 e1
        obtain ⟨uo, ucap, hu, -⟩ := RdV.split HRV.out
        simp only at hu
        subst hu
        obtain ⟨wo, rfl⟩ : ∃ wo : World, wo = wr := ⟨_, rfl⟩
        have hbq := below_alloc wo (.cells #[.int .i64 id, .slice uo xs.length ucap] 44)
        obtain ⟨q0, q1⟩ := cells2 (w := wo) (a := .int .i64 id) (b := .slice uo xs.length ucap) (t := 44) _ (Below.refl _ _)
        obtain ⟨wr, hwr⟩ : ∃ wr : World, wo.alloc (.cells #[.int .i64 id, .slice uo xs.length ucap] 44) = wr := ⟨_, rfl⟩
        rw [hwr] at hbq q0 q1
        have WQ := hid hwr
        have hsq : wo.heap.size < wr.heap.size := by rw [← hwr]; simp
        have HCR := hid (show ∀ W : World, Below wr.heap.size wr W → Calls Tryz.prog 75 #[.agg #[.int .i64 id, .slice uo xs.length ucap]] W fun e w' => ∃ v', e = .returned (.agg #[.int .i64 id, v']) ∧ w'.ownsRow W.heap.size 37 3 v' xs.length (xs.flatMap cV) ∧ Below W.heap.size W w' from fun W h => CP.out id xs _ W (RdC.below (RdC.below HRV.out hbq) h) HXL.out)
        have T0 := (hbq.cell (p := ⟨tb, 0, none⟩) hso).trans t0
        have T1 := (hbq.cell (p := ⟨tb, 1, none⟩) hso).trans t1
        have T2 := (hbq.cell (p := ⟨tb, 2, none⟩) hso).trans t2
        have TF := (hbq.frozen (p := ⟨tb, 2, none⟩) hso).trans tf
        have hsr : tb < wr.heap.size := by omega
        have KS := hid (fun (W : World) (h : Below wr.heap.size wr W) => show W.cell? ⟨tb, 0, none⟩ = some (.string nm) ∧ W.cell? ⟨tb, 1, none⟩ = some (.slice o2 ats.length cap2) ∧ W.cell? ⟨tb, 2, none⟩ = some tv ∧ W.frozen? ⟨tb, 2, none⟩ = false ∧ W.cell? ⟨wo.heap.size, 0, none⟩ = some (.int .i64 id) ∧ W.cell? ⟨wo.heap.size, 1, none⟩ = some (.slice uo xs.length ucap) from
          ⟨(h.cell (p := ⟨tb, 0, none⟩) hsr).trans T0, (h.cell (p := ⟨tb, 1, none⟩) hsr).trans T1, (h.cell (p := ⟨tb, 2, none⟩) hsr).trans T2, (h.frozen (p := ⟨tb, 2, none⟩) hsr).trans TF, (h.cell (p := ⟨wo.heap.size, 0, none⟩) hsq).trans q0, (h.cell (p := ⟨wo.heap.size, 1, none⟩) hsq).trans q1⟩)
        have HNT := hid (show some tb ≠ tv.ownBlock from fun e => by have := (OTR.out.rows.lt _ e.symm).1; have := HM.out; omega)
        have OTQ := hid (OTR.out.below hbq)
        have HO := hid OTQ.out.rows
        have HSO := hid hso
        have HM6 := hid (show wc.heap.size ≤ wr.heap.size by omega)
        have HKQ := hid (HKX.out.later hbq hM6 (Nat.le_of_lt hso))
        have HLT := hid hlt
        have LEN9 := hid (fun y : Row3 => show (rs' ++ [y]).length ≤ 35184372088832 by have := HRL.out; rw [List.length_append, List.length_singleton]; omega)
        have CNR := hid (fun (W : World) (y : Row3) => cells_newR W y (t := 44))
        have HWN := hid (show ∀ r ∈ rs', ∀ j, r.2.1.ownBlock = some j → j < wr.heap.size from fun r hr j e => ((OTQ.out.vals r hr).lt j e).2)
        rw [← hwr] at T0 T1 T2 TF q0 q1
        clear hx hce hrv hbl hwr hbq hsq hM6 hsr t0 t1 t2 tf
        go_wp2_with fail
        rw [WQ.out] at T0 T1 T2 TF q0 q1 ⊢
        go_region_law (first
          | (go_simp; go_at_call 75; refine (HCR.out _ (below_drewN wr.heap.size wr 1)).mono ?_; rintro e w5 ⟨v5, rfl, hov, hb5⟩; have hL := (below_drewN wr.heap.size wr 1).trans hb5; obtain ⟨o5, cap5, rfl, -⟩ := RdC.of_owns cV_length hov (by have := HXL.out; omega); have ho5 := own_below HO.out.drew hb5; obtain ⟨d0, d1, d2, d3, d4, d5⟩ := KS.out _ hL; obtain ⟨b0, b1, b2, b3, b4, b5⟩ := KS.out _ (hL.alloc hL.size (.cells #[.int .i64 id, .slice o5 xs.length cap5] 44)); clear hb5)
          | (refine step_pushB (by rfl) _ _ 46 (by rfl) wc.heap.size 44 (.agg #[.int .i64 0, .slice none 0 0]) 2 32 undRows infoRow rfl (by decide) (by decide) cR cR_length _ rs' (by rfl) (ho5.alloc (.cells #[.int .i64 id, .slice o5 xs.length cap5] 44)) ⟨w5.heap.size, 0, none⟩ ((id, .slice o5 xs.length cap5, xs) : Row3) (by intro u hu; simp [cR] at hu; rcases hu with rfl | rfl <;> rfl) (by rfl) (CNR.out w5 ((id, .slice o5 xs.length cap5, xs) : Row3)) (by have := HRL.out; omega) (by have := HM6.out; have := hL.size; simp; omega) ?_; intro v8 w8 hown8' hg8 hv8; obtain ⟨o8, cap8, rfl, -⟩ := RdC.of_owns cR_length hown8' (LEN9.out _); have u0 := (hg8.cell_far ⟨tb, 0, none⟩ (World.block_lt_of_cell? _ _ b0) HNT.out).trans b0; have u1 := (hg8.cell_far ⟨tb, 1, none⟩ (World.block_lt_of_cell? _ _ b1) HNT.out).trans b1; have u2 := (hg8.cell_far ⟨tb, 2, none⟩ (World.block_lt_of_cell? _ _ b2) HNT.out).trans b2; have uf := (hg8.frozen_far ⟨tb, 2, none⟩ (World.block_lt_of_cell? _ _ b2) HNT.out).trans b3))
        all_goals
          obtain ⟨y, hy⟩ : ∃ y : Row3, ((id, .slice o5 xs.length cap5, xs) : Row3) = y := ⟨_, rfl⟩
          have HY1 := hid (show y.2.1 = .slice o5 xs.length cap5 by rw [← hy])
          have HY2 := hid (show y.2.2 = xs by rw [← hy])
          have YM := hid (show ((y.1, y.2.2) : Int × List V3) = (id, xs) by rw [← hy])
          have hown8 : w8.ownsRow wc.heap.size 44 2 (.slice o8 (rs' ++ [((id, .slice o5 xs.length cap5, xs) : Row3)]).length cap8) (rs' ++ [y]).length ((rs' ++ [y]).flatMap cR) := by rw [← hy]; exact hown8'
          rw [hy] at hown8
          try rw [hy]
          have hba := below_alloc w5 (.cells #[.int .i64 id, .slice o5 xs.length cap5] 44)
          have BWA := hid (hL.trans (hba.mono hL.size))
          have hsa : wr.heap.size ≤ (w5.alloc (.cells #[.int .i64 id, .slice o5 xs.length cap5] 44)).heap.size := BWA.out.size
          obtain ⟨wa, hwa⟩ : ∃ wa : World, w5.alloc (.cells #[.int .i64 id, .slice o5 xs.length cap5] 44) = wa := ⟨_, rfl⟩
          rw [hwa] at hg8 BWA hsa hba
          have OVA : wa.ownsRow wr.heap.size 37 3 y.2.1 y.2.2.length (y.2.2.flatMap cV) := by rw [HY1.out, HY2.out]; exact own_below hov hba
          have OT9 := hid ((OTQ.out.below BWA.out).push HM6.out HWN.out OVA hg8 hown8)
          have OT10 := hid (OT9.out.set (o := 2) HM.out (.slice o8 (rs' ++ [y]).length cap8))
          have KX8 := (HKQ.out.later BWA.out HM6.out (by have := HSO.out; have := HM6.out; have := HM.out; omega)).grown hg8 (Nat.le_trans HM6.out hsa) (Nat.le_of_lt HM.out) (fun j hj => (HO.out.lt j hj).1)
          have KX9 := hid (KX8.set (o := 2) (.slice o8 (rs' ++ [y]).length cap8))
          have HM9 := hid (show cpAs (rs.take (k + 1)) (rs' ++ [y]) by
            have h := HMP.out
            unfold cpAs at h ⊢
            rw [List.map_append, h, take_next EXK.out, List.map_append, List.map_singleton, List.map_singleton, YM.out])
          have HS9 := hid (show wc.heap.size ≤ (w8.setCell ⟨tb, 2, none⟩ (.slice o8 (rs' ++ [y]).length cap8)).heap.size by have h1 := hg8.size; have h2 := HM6.out; simp; omega)
          have g0 : (w8.setCell ⟨tb, 2, none⟩ (.slice o8 (rs' ++ [y]).length cap8)).cell? ⟨tb, 0, none⟩ = _ := (World.cell?_setCell_other _ _ _ _ (by simp)).trans u0
          have g1 : (w8.setCell ⟨tb, 2, none⟩ (.slice o8 (rs' ++ [y]).length cap8)).cell? ⟨tb, 1, none⟩ = _ := (World.cell?_setCell_other _ _ _ _ (by simp)).trans u1
          have g2 : (w8.setCell ⟨tb, 2, none⟩ (.slice o8 (rs' ++ [y]).length cap8)).cell? ⟨tb, 2, none⟩ = some (.slice o8 (rs' ++ [y]).length cap8) := World.cell?_setCell_same _ _ _ u2
          have gf : (w8.setCell ⟨tb, 2, none⟩ (.slice o8 (rs' ++ [y]).length cap8)).frozen? ⟨tb, 2, none⟩ = false := by simp [uf]
          have GG := hid (And.intro g0 (And.intro g1 (And.intro g2 gf)))
          clear g0 g1 g2 gf hown8 hown8' hg8 hv8 hy hwa hsa hba e0 e1 hov hL ho5 u0 u1 u2 uf KX8 b0 b1 b2 b3 b4 b5 d0 d1 d2 d3 d4 d5 OVA T0 T1 T2 TF q0 q1
          try rw [show rs'.length + 1 = (rs' ++ [y]).length by simp]
          generalize w8.setCell ⟨tb, 2, none⟩ (.slice o8 (rs' ++ [y]).length cap8) = w9 at *
          go_wp2_with fail
          go_roundw
          case rel => exact ⟨k + 1, rs' ++ [y], _, by have := HLT.out; omega, by go_num, ⟨GG.out.1, GG.out.2.1, GG.out.2.2.1⟩, GG.out.2.2.2, OT10, HM9, KX9, HS9.out⟩
          case measure => have := HLT.out; simp [intOf]; omega
      · have hk3 : k = rs.length := by omega
        have HMf := hid (show cpAs rs rs' by have h := HMP.out; rwa [hk3, List.take_length] at h)
        obtain ⟨tq, tcap, rfl, -⟩ := RdC.of_owns cR_length OTR.out.rows (by have := HRL.out; omega)
        have AV9 := hid (HKX.out.rdF hM6 HWS.out.rd HWS.out.ftb)
        have hwt : w.heap.size + 1 < tb := by have := HWS.out.lo; have := HS1.out; omega
        have hw1 : w.heap.size + 1 < w1.heap.size := by have := HS1.out; omega
        have z0 := (BW.out.cell (p := ⟨w.heap.size + 1, 0, none⟩) hw1).trans HZ.out.1
        have z1 := (BW.out.cell (p := ⟨w.heap.size + 1, 1, none⟩) hw1).trans HZ.out.2.1
        have z2 := (BW.out.cell (p := ⟨w.heap.size + 1, 2, none⟩) hw1).trans HZ.out.2.2.1
        have zf0 := (BW.out.frozen (p := ⟨w.heap.size + 1, 0, none⟩) hw1).trans (HZ.out.2.2.2 0)
        have zf1 := (BW.out.frozen (p := ⟨w.heap.size + 1, 1, none⟩) hw1).trans (HZ.out.2.2.2 1)
        have zf2 := (BW.out.frozen (p := ⟨w.heap.size + 1, 2, none⟩) hw1).trans (HZ.out.2.2.2 2)
        have BF := hid (B1.out.trans (BW.out.mono (Nat.le_of_lt (Nat.lt_of_succ_lt hw1))))
        have HWT := hid hwt
        have FA := hid (fun (j : Nat) (hj : j < w1.heap.size) => HWS.out.far j hj)
        have FB := hid (fun (j : Nat) (hj : wc.heap.size ≤ j) => RdE.blk HWS.out.rd hj)
        have HW1 := hid hw1
        have LOM := hid (show w.heap.size ≤ wc.heap.size by have := HM.out; omega)
        clear hwt hw1
        go_wp2_with fail
        obtain ⟨wf, hwf⟩ : ∃ wf : World, ((wr.setCell ⟨w.heap.size + 1, 0, none⟩ (.string nm)).setCell ⟨w.heap.size + 1, 1, none⟩ (.slice o2 ats.length cap2)).setCell ⟨w.heap.size + 1, 2, none⟩ (.slice tq rs'.length tcap) = wf := ⟨_, rfl⟩
        obtain ⟨r0, r1, r2⟩ := set3w z0 z1 z2 hwf
        have QA : RdE encT wf (.slice o2 ats.length cap2) ats := by
          rw [← hwf]; exact RdE.set3 AV9.out (FA.out _ HW1.out)
        have hzM : w.heap.size + 1 < wc.heap.size := by have := HWT.out; have := HM.out; omega
        have QO : OwnTR wf wc.heap.size (.slice tq rs'.length tcap) rs' := by rw [← hwf]; exact ((OTR.out.set hzM _).set hzM _).set hzM _
        have QSZ : wc.heap.size ≤ wf.heap.size := by rw [← hwf]; simpa using hM6
        have QF : ∀ j, j < w.heap.size ∨ wc.heap.size ≤ j → FarV (.slice o2 ats.length cap2) (some j) := fun j hj => hj.elim (fun h => FA.out j (by have := HW1.out; omega)) (fun h => FB.out j h)
        have QB : Below w.heap.size w wf := by rw [← hwf]; exact ((BF.out.setCell (p := ⟨w.heap.size + 1, 0, none⟩) (by simp) _).setCell (p := ⟨w.heap.size + 1, 1, none⟩) (by simp) _).setCell (p := ⟨w.heap.size + 1, 2, none⟩) (by simp) _
        rw [hwf]
        exact bodyPost_ret (v := .agg #[.string nm, .slice o2 ats.length cap2, .slice tq rs'.length tcap]) (by simp [results, Tryz.results65, go_sem, r0, r1, r2]) rfl ⟨_, _, rs', wc.heap.size, rfl, QA, QF, LOM.out, QSZ, QO, HMf.out, QB⟩

end Go.Proofs.YtdiafhbbmliefaaGreatDoor

