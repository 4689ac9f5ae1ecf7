/- Texts that belong together, in one file. -/
import Derived.Test.YtgahpgmagfngfaaGreatDoorGNdD
import Derived.Test.YtgahpgmagfngfaaGreatDoorGNdG
import Derived.Test.YtgahpgmagfngfaaGreatDoorGKm3
import Derived.Test.YtgahpgmagfngfaaGreatDoorGKm2
import Derived.Test.YtgahpgmagfngfaaGreatDoorGTab30
import Derived.Deep.DeepCutAuto
/- The walk of drossref15.Of: what is known of the tables. -/
namespace Go.Proofs.YtgahpgmagfngfaaGreatDoor
open Go.RowKit
set_option linter.unusedVariables false

/-! A draft. -/
abbrev DrR := Value × U8 × U8 × List RcR
def cDr (x : DrR) : List Value := [.int .u8 (x.2.1.toNat : Int), .int .u8 (x.2.2.1.toNat : Int), x.1]
theorem cDr_length (x : DrR) : (cDr x).length = 3 := rfl
def RdDr (w : World) (v : Value) (xs : List DrR) : Prop := RdC cDr w v xs ∧ ∀ x ∈ xs, RdRc w x.1 x.2.2.2
theorem RdDr.below {w w' : World} {v : Value} {xs : List DrR} (h : RdDr w v xs) (hb : Below w.heap.size w w') : RdDr w' v xs := ⟨RdC.below h.1 hb, fun x hx => (h.2 x hx).below hb⟩
theorem RdDr.split {w : World} {v : Value} {xs : List DrR} (h : RdDr w v xs) : ∃ ao cap, v = .slice ao xs.length cap ∧ xs.length ≤ 35184372088832 ∧
    ∀ (k : Nat) (x : DrR), xs[k]? = some x → (∃ b off, ao = some ⟨b, off, none⟩ ∧ ∀ wr, Below w.heap.size w wr → wr.cell? ⟨b, off + k * 3, none⟩ = some (.int .u8 (x.2.1.toNat : Int)) ∧ wr.cell? ⟨b, off + k * 3 + 1, none⟩ = some (.int .u8 (x.2.2.1.toNat : Int)) ∧ wr.cell? ⟨b, off + k * 3 + 2, none⟩ = some x.1) ∧ ∀ wr, Below w.heap.size w wr → RdRc wr x.1 x.2.2.2 := by
  obtain ⟨⟨ao, cap, rfl, -, h2, h3⟩, h4⟩ := h
  refine ⟨ao, cap, rfl, h2, fun k d hd => ⟨?_, fun wr hn => (h4 d (List.mem_of_getElem? hd)).below hn⟩⟩
  obtain ⟨b, off, rfl, hb, hc⟩ := h3 (by have := (List.getElem?_eq_some_iff.1 hd).1; omega)
  refine ⟨b, off, rfl, fun wr hn => ⟨?_, ?_, ?_⟩⟩
  · exact (hn.cell (p := ⟨b, off + k * 3, none⟩) hb).trans (by have := hc _ _ (flat_at cDr_length xs k d 0 _ hd rfl); simpa using this)
  · exact (hn.cell (p := ⟨b, off + k * 3 + 1, none⟩) hb).trans (by have := hc _ _ (flat_at cDr_length xs k d 1 _ hd rfl); simpa [Nat.add_assoc] using this)
  · exact (hn.cell (p := ⟨b, off + k * 3 + 2, none⟩) hb).trans (by have := hc _ _ (flat_at cDr_length xs k d 2 _ hd rfl); simpa [Nat.add_assoc] using this)

/-! What is known of a recipe's table, whatever its name. -/
theorem rowsE_valsD : ∀ (rs : List Row3) (last : Int) (m : Nat), rowsE last m rs = 0 → ∀ r ∈ rs, r.2.2.any badV = false := by
  intro rs
  induction rs with
  | nil => intro last m _ r hr; cases hr
  | cons r rs ih =>
    intro last m h
    unfold rowsE at h
    split at h
    · cases h
    · split at h
      · cases h
      · split at h
        · cases h
        · rename_i h3
          intro q hq
          rcases List.mem_cons.1 hq with rfl | hq
          · simpa using h3
          · exact ih _ _ h q hq
theorem good_rowsD {t : T3} (h : GoodT t) : RowsOk t.2.1.length t.2.2 := by
  intro r hr
  refine ⟨((tabE2_ok h.1).2.2 r hr).1, fun x hx => ?_⟩
  have h1 := rowsE_valsD _ _ _ (tabE_rows (tabE2_tab h.1)) r hr
  have h2 := h.2.2.2 r hr x hx
  rw [List.any_eq_false] at h1
  have h3 := h1 x hx
  unfold badV at h3
  exact ⟨by simpa using h3, h2.1, h2.2⟩
theorem tabE_nameD {t : T3} (h : tabE t = 0) {nm : ByteArray} (hn : nameB nm = true) : tabE (nm, t.2.1, t.2.2) = 0 := by
  unfold tabE at h ⊢
  by_cases h1 : nameB t.1 = false
  · rw [if_pos h1] at h; cases h
  · rw [if_neg h1] at h
    rw [if_neg (by simp [hn])]
    exact h
theorem nameB_nmT : nameB (nmT 0) = true ∧ nameB (nmT 1) = true ∧ nameB (nmT 2) = true := by decide +kernel
theorem nameB_lt {k : Nat} (h : k < 3) : nameB (nmT k) = true := by
  rcases (show k = 0 ∨ k = 1 ∨ k = 2 by omega) with rfl | rfl | rfl
  · exact nameB_nmT.1
  · exact nameB_nmT.2.1
  · exact nameB_nmT.2.2
theorem GoodD.nil : GoodD [] := ⟨by simp, by simp, by simp, by simp, by simp, by simp⟩
theorem GoodD.snoc {ds : List D3} {d : D3} {t : T3} (h : GoodD ds) (h3 : ds.length < 3) (hG : GoodT t) (h4 : t.2.1.length ≤ 3) (h6 : t.2.2.length ≤ 6) (hd : d.2.2 = (nmT ds.length, t.2.1, t.2.2)) : GoodD (ds ++ [d]) := by
  have key : ∀ x ∈ ds ++ [d], tabE x.2.2 = 0 ∧ x.2.2.2.1.length ≤ 3 ∧ x.2.2.2.2.length ≤ 6 ∧ RowsOk x.2.2.2.1.length x.2.2.2.2 := fun x hx => by
    rcases List.mem_append.1 hx with hx | hx
    · exact ⟨h.tab x hx, h.att x hx, h.row x hx, h.ok x hx⟩
    · rw [List.mem_singleton] at hx
      subst hx
      rw [hd]
      exact ⟨tabE_nameD (tabE2_tab hG.1) (nameB_lt h3), h4, h6, good_rowsD (t := t) hG⟩
  refine ⟨by rw [List.length_append]; simp; omega, fun k x hx => ?_, fun x hx => (key x hx).1, fun x hx => (key x hx).2.1, fun x hx => (key x hx).2.2.1, fun x hx => (key x hx).2.2.2⟩
  by_cases hk : k < ds.length
  · rw [List.getElem?_append_left hk] at hx; exact h.name k x hx
  · have hk2 := (List.getElem?_eq_some_iff.1 hx).1
    rw [List.length_append] at hk2
    have e : k = ds.length := by simp at hk2; omega
    subst e
    rw [List.getElem?_append_right (Nat.le_refl _)] at hx
    simp at hx
    rw [← hx, hd]

/-! The table of one recipe, in its box. -/
def FarT (d : D3) (o : Option Nat) : Prop := FarV d.1 o ∧ FarV d.2.1 o ∧ ∀ r ∈ d.2.2.2.2, FarV r.2.1 o
def TabQ (K : Nat) (w : World) (e : Ending) (w' : World) : Prop :=
  ∃ (nm : ByteArray) (ao : Option Addr) (an ac : Nat) (ro : Option Addr) (rn rc : Nat) (b : Bool), e = .returned (.tuple #[.agg #[.string nm, .slice ao an ac, .slice ro rn rc], .bool b]) ∧
    (b = true → ∃ t : T3, RdT w' (.slice ao an ac) (.slice ro rn rc) t ∧ GoodT t ∧ t.2.2.length ≤ 6 ∧ t.2.1.length = K ∧ FreT w.heap.size (.slice ao an ac) (.slice ro rn rc) t.2.2) ∧ Below w.heap.size w w'
theorem tableQ_any (a g : U8) (rr : List RcR) (rv : Value) (w : World) (hr : RdRc w rv rr) :
    Calls Tryz.prog 10 #[.agg #[.int .u8 (a.toNat : Int), .int .u8 (g.toNat : Int), rv], .int .i64 6] w (TabQ (a.toNat % 6) w) := by
  by_cases h : rr.length ≤ 6
  · refine (table_ok a g rr rv 6 w hr h (by decide)).mono ?_
    rintro e w' ⟨av, tv, t, rfl, hT, hG, hl, hk, hF, hb⟩
    obtain ⟨ao, acap, hva, -⟩ := hT.1.split
    obtain ⟨tto, tcap, hvt, -⟩ := RdR.split hT.2
    subst hva hvt
    exact ⟨_, _, _, _, _, _, _, _, rfl, fun _ => ⟨t, hT, hG, hl, hk, hF⟩, hb⟩
  · refine (table_big a g rr rv 6 w hr (by omega)).mono ?_
    rintro e w' ⟨rfl, hb⟩
    exact ⟨_, _, _, _, _, _, _, _, rfl, (fun h => by cases h), hb⟩
/-- The box q of the next table. -/
structure TabB (K : Nat) (w : World) (q : Nat) (nm : ByteArray) (av rv : Value) (b : Bool) (wx : World) : Prop where
  c0 : wx.cell? ⟨q, 0, none⟩ = some (.string nm)
  c1 : wx.cell? ⟨q, 1, none⟩ = some av
  c2 : wx.cell? ⟨q, 2, none⟩ = some rv
  f0 : wx.frozen? ⟨q, 0, none⟩ = false
  lo : w.heap.size ≤ q
  below : Below w.heap.size w wx
  ok : b = true → ∃ t : T3, RdT wx av rv t ∧ GoodT t ∧ t.2.2.length ≤ 6 ∧ t.2.1.length = K ∧ ∀ j, (j < w.heap.size ∨ j = q) → FarV av (some j) ∧ FarV rv (some j) ∧ ∀ r ∈ t.2.2, FarV r.2.1 (some j)
theorem rdT_blk {w : World} {av rv : Value} {t : T3} (h : RdT w av rv t) {j : Nat} (hj : w.heap.size ≤ j) : FarV av (some j) ∧ FarV rv (some j) ∧ ∀ r ∈ t.2.2, FarV r.2.1 (some j) := by
  have key : ∀ {α : Type} {c : α → List Value} {v : Value} {xs : List α}, RdC c w v xs → FarV v (some j) := by
    intro α c v xs hc
    obtain ⟨ao, cap, rfl, -, h2, h3⟩ := hc
    intro a len cap' e hp e2
    simp only [Value.slice.injEq] at e
    obtain ⟨rfl, rfl, rfl⟩ := e
    obtain ⟨b, off, h4, hlt, -⟩ := h3 hp
    cases h4
    have : j = b := Option.some.inj e2
    omega
  exact ⟨farV_blk h.1 hj, key h.2.1, fun r hr => key (h.2.2 r hr)⟩
theorem TabB.alloc {K : Nat} {w w1 w2 : World} {nm : ByteArray} {ao ro : Option Addr} {an ac rn rc : Nat} {b : Bool} (h1 : Below w.heap.size w w1) (hb : Below w1.heap.size w1 w2)
    (hok : b = true → ∃ t : T3, RdT w2 (.slice ao an ac) (.slice ro rn rc) t ∧ GoodT t ∧ t.2.2.length ≤ 6 ∧ t.2.1.length = K ∧ FreT w1.heap.size (.slice ao an ac) (.slice ro rn rc) t.2.2) :
    TabB K w w2.heap.size nm (.slice ao an ac) (.slice ro rn rc) b (w2.alloc (.cells #[.string nm, .slice ao an ac, .slice ro rn rc] 48)) := by
  obtain ⟨z0, z1, z2⟩ := cells3 (w := w2) (a := .string nm) (b := .slice ao an ac) (c := .slice ro rn rc) (t := 48) _ (Below.refl _ _)
  have hb0 := h1.trans (hb.mono h1.size)
  refine ⟨z0, z1, z2, World.frozen?_alloc_new _ _ _ _, hb0.size, hb0.alloc hb0.size _, fun h => ?_⟩
  obtain ⟨t, hT, hG, hl, hk, hF⟩ := hok h
  refine ⟨t, hT.below (below_alloc _ _), hG, hl, hk, fun j hj => ?_⟩
  rcases hj with hj | rfl
  · exact hF j (Nat.lt_of_lt_of_le hj h1.size)
  · exact rdT_blk hT (Nat.le_refl _)
theorem TabB.store {K : Nat} {w w1 w2 : World} {q : Nat} {nm : ByteArray} {ao ro : Option Addr} {an ac rn rc : Nat} {b : Bool} {x0 x1 x2 : Value} (h1 : Below w.heap.size w w1) (hb : Below w1.heap.size w1 w2) (hq : w.heap.size ≤ q) (hq1 : q < w1.heap.size)
    (z0 : w2.cell? ⟨q, 0, none⟩ = some x0) (z1 : w2.cell? ⟨q, 1, none⟩ = some x1) (z2 : w2.cell? ⟨q, 2, none⟩ = some x2) (zf : w2.frozen? ⟨q, 0, none⟩ = false)
    (hok : b = true → ∃ t : T3, RdT w2 (.slice ao an ac) (.slice ro rn rc) t ∧ GoodT t ∧ t.2.2.length ≤ 6 ∧ t.2.1.length = K ∧ FreT w1.heap.size (.slice ao an ac) (.slice ro rn rc) t.2.2) :
    TabB K w q nm (.slice ao an ac) (.slice ro rn rc) b (((w2.setCell ⟨q, 0, none⟩ (.string nm)).setCell ⟨q, 1, none⟩ (.slice ao an ac)).setCell ⟨q, 2, none⟩ (.slice ro rn rc)) := by
  obtain ⟨r0, r1, r2⟩ := set3w (x := .string nm) (y := .slice ao an ac) (z := .slice ro rn rc) z0 z1 z2 rfl
  have hb0 := h1.trans (hb.mono h1.size)
  refine ⟨r0, r1, r2, by simp [zf], hq, below_set3 hb0 hq, fun h => ?_⟩
  obtain ⟨t, hT, hG, hl, hk, hF⟩ := hok h
  have f := hF q hq1
  refine ⟨t, hT.set3 f.1 f.2.1 f.2.2, hG, hl, hk, fun j hj => ?_⟩
  rcases hj with hj | rfl
  · exact hF j (Nat.lt_of_lt_of_le hj h1.size)
  · exact f

/-! How far Of has come. -/
structure OfR (B db : Nat) (tv : Value) (ds : List D3) (w : World) : Prop where
  c0 : w.cell? ⟨db, 0, none⟩ = some tv
  f0 : w.frozen? ⟨db, 0, none⟩ = false
  own : w.ownsRow B 48 3 tv ds.length (ds.flatMap cDb)
  rd : ∀ d ∈ ds, RdT w d.1 d.2.1 d.2.2
  far : ∀ d ∈ ds, FarT d tv.ownBlock ∧ ∀ j, j < B → FarT d (some j)
  good : GoodD ds
theorem OfR.lt {B db : Nat} {tv : Value} {ds : List D3} {w : World} (h : OfR B db tv ds w) : db < w.heap.size := World.block_lt_of_cell? _ _ h.c0
theorem OfR.below {B db : Nat} {tv : Value} {ds : List D3} {w w' : World} (h : OfR B db tv ds w) (hb : Below w.heap.size w w') : OfR B db tv ds w' :=
  ⟨(hb.cell (p := ⟨db, 0, none⟩) h.lt).trans h.c0, (hb.frozen (p := ⟨db, 0, none⟩) h.lt).trans h.f0, own_below h.own hb, fun d hd => (h.rd d hd).below hb, h.far, h.good⟩
theorem RdT.grownT {w w' : World} {row : Option Nat} {d : D3} (h : RdT w d.1 d.2.1 d.2.2) (hg : w.grownBy w' row) (hf : FarT d row) : RdT w' d.1 d.2.1 d.2.2 :=
  ⟨RdE.grownI h.1 hg hf.1, RdC.grown h.2.1 hg hf.2.1, fun r hr => RdC.grown (h.2.2 r hr) hg (hf.2.2 r hr)⟩
theorem OfR.push {B db : Nat} {tv v' : Value} {ds : List D3} {w w8 : World} (h : OfR B db tv ds w) {d : D3} {t : T3} (h3 : ds.length < 3) (hG : GoodT t) (h4 : t.2.1.length ≤ 3) (h6 : t.2.2.length ≤ 6) (hd : d.2.2 = (nmT ds.length, t.2.1, t.2.2)) (hdb : db < B)
    (hr : RdT w d.1 d.2.1 d.2.2) (hf : FarT d tv.ownBlock) (hfl : ∀ j, j < B → FarT d (some j))
    (ho : w8.ownsRow B 48 3 v' (ds ++ [d]).length ((ds ++ [d]).flatMap cDb)) (hg : w.grownBy w8 tv.ownBlock) (hv : v'.ownBlock = tv.ownBlock ∨ v'.ownBlock = some w.heap.size) : OfR B db v' (ds ++ [d]) (w8.setCell ⟨db, 0, none⟩ v') := by
  have hne : some db ≠ tv.ownBlock := fun e => by have := (h.own.lt db e.symm).1; omega
  have hne' : v'.ownBlock ≠ some db := fun e => by have := (ho.lt db e).1; omega
  have key : ∀ x ∈ ds ++ [d], RdT w x.1 x.2.1 x.2.2 ∧ FarT x tv.ownBlock ∧ ∀ j, j < B → FarT x (some j) := fun x hx => by
    rcases List.mem_append.1 hx with hx | hx
    · exact ⟨h.rd x hx, h.far x hx⟩
    · rw [List.mem_singleton] at hx; subst hx; exact ⟨hr, hf, hfl⟩
  refine ⟨World.cell?_setCell_same _ _ _ ((hg.cell_far ⟨db, 0, none⟩ h.lt hne).trans h.c0), by simp [(hg.frozen_far ⟨db, 0, none⟩ h.lt hne).trans h.f0], ownsRow_setCell_other ho hne' _, fun x hx => ?_, fun x hx => ⟨?_, (key x hx).2.2⟩, h.good.snoc h3 hG h4 h6 hd⟩
  · have f := (key x hx).2.2 db hdb
    have hT := RdT.grownT (key x hx).1 hg (key x hx).2.1
    exact ⟨RdE.setFar (p := ⟨db, 0, none⟩) hT.1 f.1, RdC.setFar (p := ⟨db, 0, none⟩) hT.2.1 f.2.1, fun r hr => RdC.setFar (p := ⟨db, 0, none⟩) (hT.2.2 r hr) (f.2.2 r hr)⟩
  · rcases hv with e | e
    · rw [e]; exact (key x hx).2.1
    · rw [e]; exact rdT_blk (key x hx).1 (Nat.le_refl _)
theorem infoTabD : (Tryz.prog.info? 48).map (fun i => (i.zero, i.size, i.bytes)) = some (some (.agg #[.string (ByteArray.mk #[]), .slice none 0 0, .slice none 0 0]), 3, 64) := by kernel_rfl
theorem undTabsD : Tryz.prog.underlying 27 = some (.slice 48) := by kernel_rfl
theorem cDb_one {x : D3} (h1 : x.1.oneCell' = true) (h2 : x.2.1.oneCell' = true) : ∀ u ∈ cDb x, u.oneCell' = true := by
  intro u hu
  simp only [cDb, List.mem_cons, List.not_mem_nil, or_false] at hu
  rcases hu with rfl | rfl | rfl
  · rfl
  · exact h1
  · exact h2
theorem cells_newD (w : World) (x : D3) {t : TypeId} : ∀ j u, (cDb x)[j]? = some u → (w.alloc (.cells #[.string x.2.2.1, x.1, x.2.1] t)).cell? (Addr.add ⟨w.heap.size, 0, none⟩ j) = some u := by
  intro j u hj
  have hj2 : j < 3 := (List.getElem?_eq_some_iff.1 hj).1
  rcases (show j = 0 ∨ j = 1 ∨ j = 2 by omega) with rfl | rfl | rfl <;> (simp [cDb] at hj; subst hj; simp [Addr.add])
theorem zcells3 {w w2 : World} (hb : Below ((w.drewN 1).alloc (.cells #[.string (ByteArray.mk #[]), .slice none 0 0, .slice none 0 0] 48)).heap.size ((w.drewN 1).alloc (.cells #[.string (ByteArray.mk #[]), .slice none 0 0, .slice none 0 0] 48)) w2) :
    w2.cell? ⟨w.heap.size, 0, none⟩ = some (.string (ByteArray.mk #[])) ∧ w2.cell? ⟨w.heap.size, 1, none⟩ = some (.slice none 0 0) ∧ w2.cell? ⟨w.heap.size, 2, none⟩ = some (.slice none 0 0) ∧ ∀ j, w2.frozen? ⟨w.heap.size, j, none⟩ = false := by
  obtain ⟨z0, z1, z2⟩ := cells3 (w := w.drewN 1) (a := .string (ByteArray.mk #[])) (b := .slice none 0 0) (c := .slice none 0 0) (t := 48) w2 hb
  exact ⟨z0, z1, z2, fun j => (hb.frozen (p := ⟨w.heap.size, j, none⟩) (by simp)).trans (World.frozen?_alloc_new (w.drewN 1) _ _ j)⟩

end Go.Proofs.YtgahpgmagfngfaaGreatDoor


/- The walk of drossref15.Of. -/
namespace Go.Proofs.YtgahpgmagfngfaaGreatDoor
open Go.RowKit
set_option linter.unusedVariables false

/-- What Of gives. -/
def OfQ (w : World) (e : Ending) (w' : World) : Prop :=
  ∃ (vo : Option Addr) (vn vc : Nat) (b : Bool), e = .returned (.tuple #[.agg #[.slice vo vn vc], .bool b]) ∧ (b = true → ∃ ds : List D3, RdDb w' (.slice vo vn vc) ds ∧ GoodD ds) ∧ Below w.heap.size w w'
theorem u8mod4 (a : U8) : ((a.toNat : Int)).tmod 4 = ((a.toNat % 4 : Nat) : Int) ∧ (BitVec.ofNat 8 (a.toNat % 4)).toNat = a.toNat % 4 := by
  refine ⟨by rw [Int.tmod_eq_emod_of_nonneg (by omega)]; rfl, ?_⟩
  rw [BitVec.toNat_ofNat]; omega

theorem OfR.fin {B db b : Nat} {tv x : Value} {ds : List D3} {w : World} (h : OfR B db tv ds w) (hb : b < B) : RdDb (w.setCell ⟨b, 0, none⟩ x) tv ds ∧ GoodD ds := by
  have hne : tv.ownBlock ≠ some b := fun e => by have := (h.own.lt b e).1; omega
  refine ⟨⟨RdC.of_owns cDb_length (ownsRow_setCell_other h.own hne _) (by have := h.good.few; omega), fun d hd => ?_⟩, h.good⟩
  have hT := h.rd d hd
  have f := (h.far d hd).2 b hb
  exact ⟨RdE.setFar (p := ⟨b, 0, none⟩) hT.1 f.1, RdC.setFar (p := ⟨b, 0, none⟩) hT.2.1 f.2.1, fun r hr => RdC.setFar (p := ⟨b, 0, none⟩) (hT.2.2 r hr) (f.2.2 r hr)⟩
theorem lit3_at {w : World} {i : Nat} (h : i < 3) {t : TypeId} : (w.alloc (.cells #[.string ⟨#[114]⟩, .string ⟨#[115]⟩, .string ⟨#[116]⟩] t)).cell? ⟨w.heap.size, i, none⟩ = some (.string (nmT i)) := by
  rcases (show i = 0 ∨ i = 1 ∨ i = 2 by omega) with rfl | rfl | rfl <;> (simp; rfl)

set_option maxHeartbeats 6400000 in
set_option maxRecDepth 100000 in
theorem of15_any (xs : List DrR) (v : Value) (w : World) (hv : RdDr w v xs) :
    Calls Tryz.prog 4 #[v] w (OfQ w) := by
  obtain ⟨ao, cap, rfl, hl9, hc⟩ := hv.split
  have HC := hid hc
  have l9 : (xs.length : Int) ≤ 35184372088832 := by omega
  have hb0 := (below_alloc w (.cells #[.slice none 0 0] 29)).trans ((below_alloc (w.alloc (.cells #[.slice none 0 0] 29)) (.cells #[.slice none 0 0] 29)).mono (by simp))
  have hx1 : ((w.alloc (.cells #[.slice none 0 0] 29)).alloc (.cells #[.slice none 0 0] 29)).cell? ⟨w.heap.size, 0, none⟩ = some (.slice none 0 0) ∧ ((w.alloc (.cells #[.slice none 0 0] 29)).alloc (.cells #[.slice none 0 0] 29)).frozen? ⟨w.heap.size, 0, none⟩ = false := by
    constructor
    · rw [World.cell?_alloc_lt _ _ _ (by simp)]; exact cell_new
    · simp
  have hx2 : ((w.alloc (.cells #[.slice none 0 0] 29)).alloc (.cells #[.slice none 0 0] 29)).cell? ⟨w.heap.size + 1, 0, none⟩ = some (.slice none 0 0) ∧ ((w.alloc (.cells #[.slice none 0 0] 29)).alloc (.cells #[.slice none 0 0] 29)).frozen? ⟨w.heap.size + 1, 0, none⟩ = false := by
    have e : w.heap.size + 1 = (w.alloc (.cells #[.slice none 0 0] 29)).heap.size := by simp
    constructor
    · rw [e]; exact cell_new
    · rw [e]; exact World.frozen?_alloc_new _ _ _ _
  obtain ⟨w0, hw0⟩ : ∃ w0 : World, (w.alloc (.cells #[.slice none 0 0] 29)).alloc (.cells #[.slice none 0 0] 29) = w0 := ⟨_, rfl⟩
  have hs0 : w0.heap.size = w.heap.size + 1 + 1 := by rw [← hw0]; simp
  rw [hw0] at hb0 hx1 hx2
  have W0 := hid hw0
  have B0 := hid hb0
  have HS0 := hid hs0
  have R0 := hid (show OfR w0.heap.size (w.heap.size + 1) (.slice none 0 0) [] w0 from ⟨hx2.1, hx2.2, World.ownsRow_nil _ _ _ _, by simp, by simp, GoodD.nil⟩)
  have X1 := hid hx1
  -- the result's box stays as it is
  have RB := hid (fun (W : World) (h : Below (w.heap.size + 1) w0 W) => (And.intro ((h.cell (p := ⟨w.heap.size, 0, none⟩) (by show w.heap.size < w.heap.size + 1; omega)).trans hx1.1) ((h.frozen (p := ⟨w.heap.size, 0, none⟩) (by show w.heap.size < w.heap.size + 1; omega)).trans hx1.2)))
  clear hv hc hb0 hw0 hs0 hl9 hx1 hx2
  go_enter Tryz.func4, Tryz.ntmps4
  go_upto_region 2 with fail
  rw [W0.out]
  go_upto_region 3 with fail
  go_loopw [5] (fun x wr => ∃ (i : Nat) (tv : Value) (ds : List D3), i ≤ 3 ∧ x = .int .i64 i ∧ Hid (ds.length = i) ∧ Hid (OfR w0.heap.size (w.heap.size + 1) tv ds wr) ∧ Hid (Below (w.heap.size + 1) w0 wr)) (fun x _ => 3 - (intOf x).toNat)
  case atStart => exact ⟨0, _, [], by omega, rfl, hid rfl, R0, hid (Below.refl _ _)⟩
  case round =>
    obtain ⟨i, tv, ds, hi, rfl, HDL, HR, HB⟩ := hrel
    have i0 : (0 : Int) ≤ (i : Int) := by omega
    have BW := hid (show Below w.heap.size w wr from B0.out.trans (HB.out.mono (by omega)))
    have i3 : (i : Int) ≤ 3 := by omega
    obtain ⟨to_, tc, htv⟩ := own_shape HR.out.own
    subst htv
    have t0 := HR.out.c0
    have tf := HR.out.f0
    obtain ⟨u0, uf⟩ := RB.out wr HB.out
    have FIN := hid (fun (x : Value) => HR.out.fin (b := w.heap.size) (x := x) (by have := HS0.out; omega))
    have BF := hid (fun (x : Value) => show Below w.heap.size w (wr.setCell ⟨w.heap.size, 0, none⟩ x) from BW.out.setCell (p := ⟨w.heap.size, 0, none⟩) (Nat.le_refl _) x)
    by_cases hlt : i < xs.length
    · by_cases hlt3 : i < 3
      · have hltI : (i : Int) < (xs.length : Int) := by omega
        have hlt3I : (i : Int) < 3 := by omega
        obtain ⟨xk, hxk⟩ := get_some hlt
        obtain ⟨⟨b, off, rfl, hce⟩, hrd⟩ := HC.out i xk hxk
        obtain ⟨e0, e1, e2⟩ := hce wr BW.out
        have ka := fun o => hce (wr.alloc o) (BW.out.trans ((below_alloc wr o).mono BW.out.size))
        have ka0 := fun o => (ka o).1
        have ka1 := fun o => (ka o).2.1
        have ka2 := fun o => (ka o).2.2
        have RK := hid hrd
        clear hxk hce hrd ka
        obtain ⟨rv, a, g, rr⟩ := xk
        obtain ⟨ro, rcap, hrv, -⟩ := (RK.out _ (Below.refl _ _)).split
        simp only at hrv e0 e1 e2 ka0 ka1 ka2
        subst hrv
        have TAB := hid (fun (W : World) (h : Below wr.heap.size wr W) => tableQ_any (BitVec.ofNat 8 (a.toNat % 4)) g rr (.slice ro rr.length rcap) W (RK.out W (BW.out.trans (h.mono BW.out.size))))
        have tm := (u8mod4 a).1
        rw [(u8mod4 a).2] at TAB
        have hk4 : a.toNat % 4 < 4 := Nat.mod_lt _ (by decide)
        have ha9 : a.toNat < 256 := a.isLt
        obtain ⟨an, han⟩ : ∃ an, a.toNat = an := ⟨_, rfl⟩
        rw [han] at TAB tm hk4 e0 ka0 ha9
        obtain ⟨k4, hk⟩ : ∃ k4, an % 4 = k4 := ⟨_, rfl⟩
        rw [hk] at TAB tm hk4
        have k40 : (0 : Int) ≤ (k4 : Int) := by omega
        have k44 : (k4 : Int) < 256 := by omega
        have K4 := hid hk4
        have an0 : (0 : Int) ≤ (an : Int) := by omega
        have an9 : (an : Int) < 256 := by omega
        have HI3 := hid hlt3
        have ZA := hid (show Below wr.heap.size wr ((wr.drewN 1).alloc (.cells #[.string (ByteArray.mk #[]), .slice none 0 0, .slice none 0 0] 48)) from (below_drewN wr.heap.size wr 1).alloc (by simp) _)
        have ZLT := hid (show wr.heap.size < ((wr.drewN 1).alloc (.cells #[.string (ByteArray.mk #[]), .slice none 0 0, .slice none 0 0] 48)).heap.size from by simp)
        clear hk han hk4 ha9 hlt3
        clear t0 tf u0 uf
        go_upto_region 5 with fail
        go_cut [6, 7] (fun s6 s7 wx => ∃ (q : Nat) (nm : ByteArray) (ao' : Option Addr) (an' ac : Nat) (ro' : Option Addr) (rn rc : Nat) (bb : Bool), s6 = .pointer (some ⟨q, 0, none⟩) ∧ s7 = .bool bb ∧ TabB (k4 % 6) wr q nm (.slice ao' an' ac) (.slice ro' rn rc) bb wx)
        case first =>
          go_region_law (first
            | (go_simp; go_at_call 10; refine (TAB.out _ (below_drewN wr.heap.size wr 1)).mono ?_; rintro e w2 ⟨n2, ao2, an2, ac2, ro2, rn2, rc2, b2, rfl, hok, hb2⟩; have BX := hid (TabB.alloc (nm := n2) (below_drewN wr.heap.size wr 1) hb2 hok); clear hok hb2)
            | (go_simp; go_at_call 10; refine (TAB.out _ ZA.out).mono ?_; rintro e w2 ⟨n2, ao2, an2, ac2, ro2, rn2, rc2, b2, rfl, hok, hb2⟩; obtain ⟨z0, z1, z2, zf⟩ := zcells3 hb2; have zf0 := zf 0; have zf1 := zf 1; have zf2 := zf 2; have BX := hid (TabB.store (nm := n2) ZA.out hb2 (Nat.le_refl _) ZLT.out z0 z1 z2 zf0 hok); clear hok hb2 zf))
          all_goals (go_wp2_with fail; go_meet; exact ⟨_, _, _, _, _, _, _, _, _, rfl, rfl, BX.out⟩)
        case rest =>
          obtain ⟨q, nm, ao', an', ac, ro', rn, rc, bb, rfl, rfl, hT⟩ := hcut
          have HT := hid hT
          have BC := hid (show Below (w.heap.size + 1) w0 wc from HB.out.trans (hT.below.mono (by have := HB.out.size; have := HS0.out; omega)))
          have BWC := hid (show Below w.heap.size w wc from B0.out.trans (BC.out.mono (by have := HS0.out; omega)))
          have OC := hid (HR.out.below hT.below)
          clear e0 e1 e2 ka0 ka1 ka2 tm
          cases bb with
          | false =>
            obtain ⟨u0, uf⟩ := RB.out wc BC.out
            clear hT
            go_wp2_with fail
            exact bodyPost_ret (v := .tuple #[.agg #[.slice none 0 0], .bool false]) (by simp [results, Tryz.results4, go_sem, u0]) rfl ⟨none, 0, 0, false, rfl, (fun h => by cases h), BWC.out.setCell (p := ⟨w.heap.size, 0, none⟩) (Nat.le_refl _) _⟩
          | true =>
            obtain ⟨t, hRT, hG, hl6, hlk, hF⟩ := hT.ok rfl
            have q0 := hT.c0
            have qf := hT.f0
            have q1 := hT.c1
            have q2 := hT.c2
            have QLO := hid hT.lo
            have HRT := hid hRT
            have HG := hid hG
            have HL6 := hid hl6
            have HLK := hid (show t.2.1.length ≤ 3 by rw [hlk]; have := K4.out; omega)
            have HF := hid hF
            clear hT hRT hG hl6 hlk hF
            -- the name
            have L8 := lit3_at (w := wc) HI3.out (t := 9)
            obtain ⟨wa, hwa⟩ : ∃ wa : World, wc.alloc (.cells #[.string ⟨#[114]⟩, .string ⟨#[115]⟩, .string ⟨#[116]⟩] 9) = wa := ⟨_, rfl⟩
            have WA := hid hwa
            have hba := below_alloc wc (.cells #[.string ⟨#[114]⟩, .string ⟨#[115]⟩, .string ⟨#[116]⟩] 9)
            rw [hwa] at hba
            have BA := hid hba
            have ql := World.block_lt_of_cell? _ _ q0
            have a0 := (hba.cell (p := ⟨q, 0, none⟩) ql).trans q0
            have a1 := (hba.cell (p := ⟨q, 1, none⟩) ql).trans q1
            have a2 := (hba.cell (p := ⟨q, 2, none⟩) ql).trans q2
            have af := (hba.frozen (p := ⟨q, 0, none⟩) ql).trans qf
            obtain ⟨w5, hw5⟩ : ∃ w5 : World, wa.setCell ⟨q, 0, none⟩ (.string (nmT i)) = w5 := ⟨_, rfl⟩
            have W5 := hid hw5
            have s0 : w5.cell? ⟨q, 0, none⟩ = some (.string (nmT i)) := by rw [← hw5]; exact World.cell?_setCell_same _ _ _ a0
            have s1 : w5.cell? ⟨q, 1, none⟩ = some (.slice ao' an' ac) := by rw [← hw5]; exact (World.cell?_setCell_other _ _ _ _ (by simp)).trans a1
            have s2 : w5.cell? ⟨q, 2, none⟩ = some (.slice ro' rn rc) := by rw [← hw5]; exact (World.cell?_setCell_other _ _ _ _ (by simp)).trans a2
            have B5 := hid (show Below wr.heap.size wr w5 from by
              rw [← hw5]
              exact (HT.out.below.trans (hba.mono HT.out.below.size)).setCell (p := ⟨q, 0, none⟩) QLO.out _)
            have T5 := hid (show RdT w5 (.slice ao' an' ac) (.slice ro' rn rc) t from by
              rw [← hw5]
              have hT := HRT.out.below hba
              have f := HF.out q (.inr rfl)
              exact ⟨RdE.setFar (p := ⟨q, 0, none⟩) hT.1 f.1, RdC.setFar (p := ⟨q, 0, none⟩) hT.2.1 f.2.1, fun r hr => RdC.setFar (p := ⟨q, 0, none⟩) (hT.2.2 r hr) (f.2.2 r hr)⟩)
            have a09 := a0
            have af9 := af
            rw [← hwa] at a09 af9
            clear hba ql hwa hw5
            go_upto_region 9 with fail
            rw [WA.out, W5.out]
            clear L8 a09 af9 a0 a1 a2 af q0 q1 q2 qf
            have O5 := HR.out.below B5.out
            have t0 := O5.c0
            have tf := O5.f0
            have hb6 := below_alloc w5 (.cells #[.string (nmT i), .slice ao' an' ac, .slice ro' rn rc] 48)
            have O6 := hid (O5.below hb6)
            have HB6 := hid hb6
            obtain ⟨Y, hY⟩ : ∃ Y : D3, ((.slice ao' an' ac, .slice ro' rn rc, nmT i, t.2.1, t.2.2) : D3) = Y := ⟨_, rfl⟩
            have HY := hid hY
            have CN := hid (show ∀ j u, (cDb Y)[j]? = some u → (w5.alloc (.cells #[.string (nmT i), .slice ao' an' ac, .slice ro' rn rc] 48)).cell? (Addr.add ⟨w5.heap.size, 0, none⟩ j) = some u from by
              rw [← hY]
              exact cells_newD w5 ((.slice ao' an' ac, .slice ro' rn rc, nmT i, t.2.1, t.2.2) : D3) (t := 48))
            have ONE := hid (show ∀ u ∈ cDb Y, u.oneCell' = true from by rw [← hY]; exact cDb_one rfl rfl)
            have T6 := hid (show RdT (w5.alloc (.cells #[.string (nmT i), .slice ao' an' ac, .slice ro' rn rc] 48)) Y.1 Y.2.1 Y.2.2 from by rw [← hY]; exact T5.out.below hb6)
            have BS6 := hid (show w0.heap.size ≤ wr.heap.size ∧ w0.heap.size ≤ (w5.alloc (.cells #[.string (nmT i), .slice ao' an' ac, .slice ro' rn rc] 48)).heap.size from ⟨HB.out.size, Nat.le_trans HB.out.size (Nat.le_trans B5.out.size hb6.size)⟩)
            have DS := hid (show ds.length < 1000000 by have := HDL.out; have := HI3.out; omega)
            clear hY hb6 O5
            go_wp2_with (at_builtin; refine wpList_pushW rfl _ _ 27 rfl w0.heap.size 48 (.agg #[.string (ByteArray.mk #[]), .slice none 0 0, .slice none 0 0]) 3 64 undTabsD infoTabD rfl (by decide) (by decide) cDb cDb_length (.slice to_ ds.length tc) ds rfl O6.out.own ⟨w5.heap.size, 0, none⟩ Y ONE.out rfl CN.out DS.out BS6.out.2 ?_)
            intro v7 w7 ho7 hg7 hv7
            obtain ⟨o7, c7, e7⟩ := own_shape ho7
            obtain ⟨n7, hn7⟩ : ∃ n, ds.length + 1 = n := ⟨_, rfl⟩
            rw [hn7] at e7
            subst e7
            have hne7 : some (w.heap.size + 1) ≠ (Value.slice to_ ds.length tc).ownBlock := fun e => by have := (HR.out.own.lt _ e.symm).1; have := HS0.out; omega
            have g0 := (hg7.cell_far ⟨w.heap.size + 1, 0, none⟩ O6.out.lt hne7).trans O6.out.c0
            have gf := (hg7.frozen_far ⟨w.heap.size + 1, 0, none⟩ O6.out.lt hne7).trans O6.out.f0
            have FY := hid (show ∀ j, j < wr.heap.size → FarT Y (some j) from fun j hj => by rw [← HY.out]; exact HF.out j (.inl hj))
            have NX := hid (O6.out.push (d := Y) (by have := HDL.out; have := HI3.out; omega) HG.out HLK.out HL6.out (by rw [← HY.out, HDL.out]) (by have := HS0.out; omega) T6.out (show FarT Y (Value.slice to_ ds.length tc).ownBlock from by
              cases ho : (Value.slice to_ ds.length tc).ownBlock with
              | none => exact ⟨farV_no _, farV_no _, fun r _ => farV_no _⟩
              | some j => exact FY.out j (HR.out.own.lt j ho).2) (fun j hj => FY.out j (Nat.lt_of_lt_of_le hj BS6.out.1)) (by simpa using ho7) hg7 (by simpa using hv7))
            have NB := hid (show Below (w.heap.size + 1) w0 (w7.setCell ⟨w.heap.size + 1, 0, none⟩ (.slice o7 n7 c7)) from by
              have h5 := HB.out.trans (B5.out.mono (by have := HB.out.size; have := HS0.out; omega))
              have h6 := h5.trans (HB6.out.mono (by have := h5.size; have := HS0.out; omega))
              exact (Below.grown h6 hg7 (by have := BS6.out.2; have := HS0.out; omega) (fun g hg => by have := (HR.out.own.lt g hg).1; have := HS0.out; omega)).setCell (p := ⟨w.heap.size + 1, 0, none⟩) (Nat.le_refl _) _)
            clear ho7 hg7 hv7 hn7
            go_wp2_with fail
            go_roundw
            case rel => exact ⟨i + 1, _, ds ++ [Y], by have := HI3.out; omega, by go_num, hid (by rw [List.length_append, HDL.out]; rfl), NX, NB⟩
            case measure => have := HI3.out; simp [intOf]; omega
      · have hltI : (i : Int) < (xs.length : Int) := by omega
        have hlt3I : ¬ (i : Int) < 3 := by omega
        go_wp2_with fail
        exact bodyPost_ret (v := .tuple #[.agg #[.slice to_ ds.length tc], .bool (decide ((xs.length : Int) ≤ 3))]) (by simp [results, Tryz.results4, go_sem, u0]) rfl ⟨to_, ds.length, tc, _, rfl, fun _ => ⟨ds, FIN.out _⟩, BF.out _⟩
    · have hltI : ¬ (i : Int) < (xs.length : Int) := by omega
      go_wp2_with fail
      exact bodyPost_ret (v := .tuple #[.agg #[.slice to_ ds.length tc], .bool (decide ((xs.length : Int) ≤ 3))]) (by simp [results, Tryz.results4, go_sem, u0]) rfl ⟨to_, ds.length, tc, _, rfl, fun _ => ⟨ds, FIN.out _⟩, BF.out _⟩

end Go.Proofs.YtgahpgmagfngfaaGreatDoor

