/- Texts that belong together, in one file. -/
import Derived.Test.YtgahpgmagfngfaaGreatDoorGTab27
import Derived.Deep.RegionLaw
import Derived.Deep.RegionHeld3
import Derived.Deep.AppendLies
import Derived.Test.YtgahpgmagfngfaaGreatDoorGTab20
/- The tables of recipes: the walk of drossref03.Wide. -/
namespace Go.Proofs.YtgahpgmagfngfaaGreatDoor
open Go.RowKit

theorem wpList_pushB {α : Type} {P : Program} {w : World} {ops : Array Oper} {rest : List Oper} {o : Oper} {a : Act} {Q : Exit → Act → World → Prop} (hgd : o.guard = none) (s x : Operand) (t : TypeId)
    (ho : o.op = .call { callee := .builtin .append, args := #[s, x], argTypes := #[t, t] })
    (B : Nat) (e : TypeId) (z : Value) (n bytes : Nat) (ht : P.underlying t = some (.slice e)) (hinfo : (P.info? e).map (fun i => (i.zero, i.size, i.bytes)) = some (some z, n, bytes)) (hz : z.cells.size = n) (hn : 0 < n) (hb8 : bytes ≤ 64)
    (c : α → List Value) (hc : ∀ y, (c y).length = n) (v : Value) (xs : List α) (hs : a.eval s = v) (hown : w.ownsRow B e n v xs.length (xs.flatMap c))
    (ad : Addr) (y : α) (hf : ∀ u ∈ c y, u.oneCell' = true) (hx : a.eval x = .slice (some ad) 1 1) (hy : ∀ j u, (c y)[j]? = some u → w.cell? (ad.add j) = some u) (hl : xs.length < 2199023255552) (hB : B ≤ w.heap.size)
    (h : ∀ v' w', w'.ownsRow B e n v' (xs ++ [y]).length ((xs ++ [y]).flatMap c) → w.grownBy w' v.ownBlock → (v'.ownBlock = v.ownBlock ∨ v'.ownBlock = some w.heap.size) → wpList P ops Q rest (a.put o.dst v') w') : wpList P ops Q (o :: rest) a w := by
  obtain ⟨i, hi, hz0, hz1, hz2⟩ := info_parts hinfo
  refine wpList_append_lies w hgd s x t ho B e i z n bytes ht hi hz0 hz1 hz2 hz hn v xs.length (xs.flatMap c) hs hown ad 1 1 (c y) hx (by rw [hc, Nat.one_mul]) hy hf (by omega) ?_ ?_ hB _ rfl ?_
  · unfold maxLen; omega
  · refine Nat.le_trans (Nat.mul_le_mul_left _ hb8) ?_; omega
  · intro g cap w' h1 h2 h3 _
    refine h _ w' ?_ h2 (h3.elim (fun e => .inl e.symm) fun e => .inr (by rw [e]; rfl))
    simpa using h1
/-- A row of a recipe: its slice, its length, its codes. -/
abbrev RcR := Value × Nat × (Nat → U8)
def RdU (w : World) (r : RcR) : Prop := ∃ ao cap, r.1 = .slice ao r.2.1 cap ∧ r.2.1 ≤ 140737488355328 ∧ ∀ i, i < r.2.1 → ∃ b off, ao = some ⟨b, off, none⟩ ∧ b < w.heap.size ∧ w.cell? ⟨b, off + i, none⟩ = some (enc8 (r.2.2 i))
theorem RdU.below {w w' : World} {r : RcR} (h : RdU w r) (hb : Below w.heap.size w w') : RdU w' r := by
  obtain ⟨ao, cap, h1, h2, h3⟩ := h
  refine ⟨ao, cap, h1, h2, fun i hi => ?_⟩
  obtain ⟨b, off, e, hlt, hc⟩ := h3 i hi
  exact ⟨b, off, e, Nat.lt_of_lt_of_le hlt hb.size, (hb.cell (p := ⟨b, off + i, none⟩) hlt).trans hc⟩
def cRc (r : RcR) : List Value := [r.1]
theorem cRc_length (r : RcR) : (cRc r).length = 1 := rfl
def RdRc (w : World) (v : Value) (rr : List RcR) : Prop := RdC cRc w v rr ∧ ∀ r ∈ rr, RdU w r
theorem RdRc.below {w w' : World} {v : Value} {rr : List RcR} (h : RdRc w v rr) (hb : Below w.heap.size w w') : RdRc w' v rr := ⟨RdC.below h.1 hb, fun r hr => (h.2 r hr).below hb⟩
theorem RdRc.split {w : World} {v : Value} {rr : List RcR} (h : RdRc w v rr) : ∃ ao cap, v = .slice ao rr.length cap ∧ rr.length ≤ 35184372088832 ∧
    ∀ (k : Nat) (r : RcR), rr[k]? = some r → (∃ b off, ao = some ⟨b, off, none⟩ ∧ ∀ wr, Below w.heap.size w wr → wr.cell? ⟨b, off + k, none⟩ = some r.1) ∧ ∀ wr, Below w.heap.size w wr → RdU wr r := by
  obtain ⟨⟨ao, cap, rfl, -, h2, h3⟩, h4⟩ := h
  refine ⟨ao, cap, rfl, h2, fun k r hr => ⟨?_, fun wr hn => (h4 r (List.mem_of_getElem? hr)).below hn⟩⟩
  obtain ⟨b, off, rfl, hb, hc⟩ := h3 (by have := (List.getElem?_eq_some_iff.1 hr).1; omega)
  exact ⟨b, off, rfl, fun wr hn => (hn.cell (p := ⟨b, off + k, none⟩) hb).trans (by have := hc _ _ (flat_at cRc_length rr k r 0 _ hr rfl); simpa using this)⟩
/-- The value of a cell of a recipe. -/
def codeR (r : RcR) (k : Nat) : Nat := if k < r.2.1 then (r.2.2 k).toNat % 12 else 0
def valsR (r : RcR) (n : Nat) : List V3 := (List.range n).map fun k => codeV (codeR r k)
theorem valsR_next (r : RcR) (n : Nat) : valsR r (n + 1) = valsR r n ++ [codeV (codeR r n)] := by unfold valsR; rw [List.range_succ, List.map_append]; rfl
theorem valsR_length (r : RcR) (n : Nat) : (valsR r n).length = n := by unfold valsR; simp
def idR (g : Nat) (i : Nat) : Int := 1 + (i : Int) * (1 + (g : Int))
/-- The rows of a recipe, without the slices that hold them. -/
def rowsRc (g n : Nat) (rr : List RcR) : List (Int × List V3) := rr.mapIdx fun i r => (idR g i, valsR r n)
def nameN (n : Nat) : List ByteArray := [ByteArray.mk #[97], ByteArray.mk #[98], ByteArray.mk #[99], ByteArray.mk #[100], ByteArray.mk #[101], ByteArray.mk #[102], ByteArray.mk #[103], ByteArray.mk #[104]].take n
theorem nameN_length {n : Nat} (h : n ≤ 8) : (nameN n).length = n := by unfold nameN; rw [List.length_take]; simp; omega
/-- A slice that does not lie in a block. -/
def FarV (v : Value) (o : Option Nat) : Prop := ∀ a len cap, v = .slice (some a) len cap → 0 < len → o ≠ some a.block
theorem RdC.grown {α : Type} {c : α → List Value} {w w' : World} {v : Value} {xs : List α} {o : Option Nat} (h : RdC c w v xs) (hg : w.grownBy w' o) (hf : FarV v o) : RdC c w' v xs := by
  obtain ⟨ao, cap, rfl, h1, h2, h3⟩ := h
  refine ⟨ao, cap, rfl, h1, h2, fun hp => ?_⟩
  obtain ⟨b, off, rfl, hlt, hc⟩ := h3 hp
  refine ⟨b, off, rfl, Nat.lt_of_lt_of_le hlt hg.size, fun j u hu => ?_⟩
  exact (World.cell?_of_block (a := ⟨b, off + j, none⟩) (hg.block b hlt (fun e => hf _ _ _ rfl hp e.symm))).trans (hc j u hu)

theorem RdC.setFar {α : Type} {c : α → List Value} {w : World} {v u : Value} {xs : List α} {p : Addr} (h : RdC c w v xs) (hf : FarV v (some p.block)) : RdC c (w.setCell p u) v xs := by
  obtain ⟨ao, cap, rfl, h1, h2, h3⟩ := h
  refine ⟨ao, cap, rfl, h1, h2, fun hp => ?_⟩
  obtain ⟨b, off, rfl, hlt, hc⟩ := h3 hp
  have hb : p.block ≠ b := fun e => hf _ _ _ rfl hp (by rw [e])
  refine ⟨b, off, rfl, by simpa [World.setCell] using hlt, fun j u hu => ?_⟩
  exact (World.cell?_setCell_far w p ⟨b, off + j, none⟩ _ hb).trans (hc j u hu)
theorem cells_newR (w : World) (y : Row3) {t : TypeId} : ∀ j u, (cR y)[j]? = some u → (w.alloc (.cells #[.int .i64 y.1, y.2.1] t)).cell? (Addr.add ⟨w.heap.size, 0, none⟩ j) = some u := by
  intro j u hj
  have hj2 : j < 2 := (List.getElem?_eq_some_iff.1 hj).1
  rcases (show j = 0 ∨ j = 1 by omega) with rfl | rfl <;> (simp [cR] at hj; subst hj; simp [Addr.add])
theorem infoRow : (Tryz.prog.info? 87).map (fun i => (i.zero, i.size, i.bytes)) = some (some (.agg #[.int .i64 0, .slice none 0 0]), 2, 32) := by kernel_rfl
theorem undRows : Tryz.prog.underlying 46 = some (.slice 87) := by kernel_rfl
theorem infoStr : (Tryz.prog.info? 9).map (fun i => (i.zero, i.size, i.bytes)) = some (some (.string (ByteArray.mk #[])), 1, 16) := by kernel_rfl
theorem undStrs : Tryz.prog.underlying 45 = some (.slice 9) := by kernel_rfl

/-- A table whose slices lie in no block below B. -/
def FreT (B : Nat) (av tv : Value) (rs : List Row3) : Prop := ∀ j, j < B → FarV av (some j) ∧ FarV tv (some j) ∧ ∀ r ∈ rs, FarV r.2.1 (some j)
theorem set3w {W : World} {b : Nat} {x y z x' y' z' : Value} (h0 : W.cell? ⟨b, 0, none⟩ = some x') (h1 : W.cell? ⟨b, 1, none⟩ = some y') (h2 : W.cell? ⟨b, 2, none⟩ = some z') {W3 : World} (hW : ((W.setCell ⟨b, 0, none⟩ x).setCell ⟨b, 1, none⟩ y).setCell ⟨b, 2, none⟩ z = W3) :
    W3.cell? ⟨b, 0, none⟩ = some x ∧ W3.cell? ⟨b, 1, none⟩ = some y ∧ W3.cell? ⟨b, 2, none⟩ = some z := by
  subst hW
  refine ⟨?_, ?_, ?_⟩
  · rw [World.cell?_setCell_other _ _ _ _ (by simp), World.cell?_setCell_other _ _ _ _ (by simp)]; exact World.cell?_setCell_same _ _ _ h0
  · rw [World.cell?_setCell_other _ _ _ _ (by simp)]; exact World.cell?_setCell_same _ _ _ ((World.cell?_setCell_other _ _ _ _ (by simp)).trans h1)
  · exact World.cell?_setCell_same _ _ _ ((World.cell?_setCell_other _ _ _ _ (by simp)).trans ((World.cell?_setCell_other _ _ _ _ (by simp)).trans h2))
theorem RdC.set3 {α : Type} {c : α → List Value} {W : World} {v x y z : Value} {xs : List α} {b : Nat} (h : RdC c W v xs) (hf : FarV v (some b)) : RdC c (((W.setCell ⟨b, 0, none⟩ x).setCell ⟨b, 1, none⟩ y).setCell ⟨b, 2, none⟩ z) v xs :=
  RdC.setFar (p := ⟨b, 2, none⟩) (RdC.setFar (p := ⟨b, 1, none⟩) (RdC.setFar (p := ⟨b, 0, none⟩) h hf) hf) hf
theorem RdE.setFar {α : Type} {f : α → Value} {w : World} {v u : Value} {xs : List α} {p : Addr} (h : RdE f w v xs) (hf : FarV v (some p.block)) : RdE f (w.setCell p u) v xs := by
  obtain ⟨ao, cap, rfl, h1, h2, h3⟩ := h
  refine ⟨ao, cap, rfl, h1, h2, fun hp => ?_⟩
  obtain ⟨b, off, rfl, hlt, hc⟩ := h3 hp
  have hb : p.block ≠ b := fun e => hf _ _ _ rfl hp (by rw [e])
  refine ⟨b, off, rfl, by simpa [World.setCell] using hlt, fun j x hx => ?_⟩
  exact (World.cell?_setCell_far w p ⟨b, off + j, none⟩ _ hb).trans (hc j x hx)
theorem RdE.set3 {α : Type} {f : α → Value} {W : World} {v x y z : Value} {xs : List α} {b : Nat} (h : RdE f W v xs) (hf : FarV v (some b)) : RdE f (((W.setCell ⟨b, 0, none⟩ x).setCell ⟨b, 1, none⟩ y).setCell ⟨b, 2, none⟩ z) v xs :=
  RdE.setFar (p := ⟨b, 2, none⟩) (RdE.setFar (p := ⟨b, 1, none⟩) (RdE.setFar (p := ⟨b, 0, none⟩) h hf) hf) hf
theorem far_own {w : World} {B b n : Nat} {e : TypeId} {size : Nat} {v : Value} {xs : List Value} (h : w.ownsRow B e size v n xs) (hb : b < B) : FarV v (some b) := by
  intro a len cap e1 hl e2
  have hv : v.ownBlock = some a.block := by rw [e1]; rfl
  have := (h.lt _ hv).1
  simp at e2; omega

set_option maxHeartbeats 3200000 in
set_option maxRecDepth 100000 in
theorem wide_any (a g : U8) (rr : List RcR) (rv : Value) (n : Nat) (w : World) (hr : RdRc w rv rr) (hn : n ≤ 8) (h8 : rr.length ≤ 8) :
    Calls Tryz.prog 23 #[.agg #[.int .u8 (a.toNat : Int), .int .u8 (g.toNat : Int), rv], .int .i64 (n : Int)] w fun e w' => ∃ (av tv : Value) (rs : List Row3), e = .returned (.agg #[.string (ByteArray.mk #[114]), av, tv]) ∧ RdT w' av tv (ByteArray.mk #[114], nameN n, rs) ∧ rs.map (fun r => (r.1, r.2.2)) = rowsRc (g.toNat % 3) n rr ∧ FreT w.heap.size av tv rs ∧ Below w.heap.size w w' := by
  obtain ⟨G, hG⟩ : ∃ G, g.toNat % 3 = G := ⟨_, rfl⟩
  have hgb : (g.toNat : Int) ≤ 255 := by have := g.isLt; omega
  have hg0 : (0 : Int) ≤ (g.toNat : Int) := by omega
  have hg3 : (g.toNat : Int) % 3 = (G : Int) := by omega
  have hG2 : G ≤ 2 := by omega
  rw [hG]
  have HG3 := hid hg3
  clear hG hg3
  generalize (g.toNat : Int) = gi at *
  have hb00 := below_alloc w (.cells #[.int .u8 (a.toNat : Int), .int .u8 gi, rv] 53)
  have hb01 := below_alloc (w.alloc (.cells #[.int .u8 (a.toNat : Int), .int .u8 gi, rv] 53)) (.cells #[.string (ByteArray.mk #[]), .slice none 0 0, .slice none 0 0] 48)
  have hb0 := hb00.trans (hb01.mono hb00.size)
  have R3 := hid (fun W (h : Below ((w.alloc (.cells #[.int .u8 (a.toNat : Int), .int .u8 gi, rv] 53)).alloc (.cells #[.string (ByteArray.mk #[]), .slice none 0 0, .slice none 0 0] 48)).heap.size ((w.alloc (.cells #[.int .u8 (a.toNat : Int), .int .u8 gi, rv] 53)).alloc (.cells #[.string (ByteArray.mk #[]), .slice none 0 0, .slice none 0 0] 48)) W) => cells3 (w := w) (a := .int .u8 (a.toNat : Int)) (b := .int .u8 gi) (c := rv) (t := 53) W (hb01.trans (h.mono hb01.size)))
  have hzf : ∀ i : Nat, ((w.alloc (.cells #[.int .u8 (a.toNat : Int), .int .u8 gi, rv] 53)).alloc (.cells #[.string (ByteArray.mk #[]), .slice none 0 0, .slice none 0 0] 48)).frozen? ⟨w.heap.size + 1, i, none⟩ = false := by
    intro i
    have : (w.alloc (.cells #[.int .u8 (a.toNat : Int), .int .u8 gi, rv] 53)).heap.size = w.heap.size + 1 := by simp
    rw [← this]; simp
  have Z3 := hid (fun W (h : Below ((w.alloc (.cells #[.int .u8 (a.toNat : Int), .int .u8 gi, rv] 53)).alloc (.cells #[.string (ByteArray.mk #[]), .slice none 0 0, .slice none 0 0] 48)).heap.size ((w.alloc (.cells #[.int .u8 (a.toNat : Int), .int .u8 gi, rv] 53)).alloc (.cells #[.string (ByteArray.mk #[]), .slice none 0 0, .slice none 0 0] 48)) W) => show (W.cell? ⟨w.heap.size + 1, 0, none⟩ = some (.string (ByteArray.mk #[])) ∧ W.cell? ⟨w.heap.size + 1, 1, none⟩ = some (.slice none 0 0) ∧ W.cell? ⟨w.heap.size + 1, 2, none⟩ = some (.slice none 0 0)) ∧ ∀ i : Nat, W.frozen? ⟨w.heap.size + 1, i, none⟩ = false from
    ⟨by have := cells3 (w := w.alloc (.cells #[.int .u8 (a.toNat : Int), .int .u8 gi, rv] 53)) (a := .string (ByteArray.mk #[])) (b := .slice none 0 0) (c := .slice none 0 0) (t := 48) W h; rwa [show (w.alloc (.cells #[.int .u8 (a.toNat : Int), .int .u8 gi, rv] 53)).heap.size = w.heap.size + 1 by simp] at this, fun i => (h.frozen (p := ⟨w.heap.size + 1, i, none⟩) (by simp)).trans (hzf i)⟩)
  have hs0 : ((w.alloc (.cells #[.int .u8 (a.toNat : Int), .int .u8 gi, rv] 53)).alloc (.cells #[.string (ByteArray.mk #[]), .slice none 0 0, .slice none 0 0] 48)).heap.size = w.heap.size + 2 := by simp
  have RR := hid (hr.below hb0)
  obtain ⟨w0, hw0⟩ : ∃ w0 : World, (w.alloc (.cells #[.int .u8 (a.toNat : Int), .int .u8 gi, rv] 53)).alloc (.cells #[.string (ByteArray.mk #[]), .slice none 0 0, .slice none 0 0] 48) = w0 := ⟨_, rfl⟩
  rw [hw0] at hb0 R3 RR hs0 Z3
  clear hzf
  have B0 := hid hb0
  have W0 := hid hw0
  have HS0 := hid hs0
  have hsz0 := hb0.size
  obtain ⟨ro, rcap, rfl, hrl, hrc⟩ := RR.out.split
  have RC := hid hrc
  clear hb0 hw0 hb00 hb01 hrc hr hs0
  have n0 : (0 : Int) ≤ (n : Int) := by omega
  have hx0 : ((w.alloc (.cells #[.int .u8 (a.toNat : Int), .int .u8 gi, .slice ro rr.length rcap] 53)).alloc (.cells #[.string (ByteArray.mk #[]), .slice none 0 0, .slice none 0 0] 48)).heap.size = w.heap.size + 1 + 1 := by simp
  have hown0 := (World.ownsRow_lit (size := 1) (e := 9) ((w.alloc (.cells #[.int .u8 (a.toNat : Int), .int .u8 gi, .slice ro rr.length rcap] 53)).alloc (.cells #[.string (ByteArray.mk #[]), .slice none 0 0, .slice none 0 0] 48)) #[] 0 (Nat.le_refl _) (Nat.zero_le _) rfl).alloc (.cells #[.string (ByteArray.mk #[97]), .string (ByteArray.mk #[98]), .string (ByteArray.mk #[99]), .string (ByteArray.mk #[100]), .string (ByteArray.mk #[101]), .string (ByteArray.mk #[102]), .string (ByteArray.mk #[103]), .string (ByteArray.mk #[104])] 9)
  rw [hx0] at hown0
  have hlit : RdE encT ((((w.alloc (.cells #[.int .u8 (a.toNat : Int), .int .u8 gi, .slice ro rr.length rcap] 53)).alloc (.cells #[.string (ByteArray.mk #[]), .slice none 0 0, .slice none 0 0] 48)).alloc (.cells #[] 9)).alloc (.cells #[.string (ByteArray.mk #[97]), .string (ByteArray.mk #[98]), .string (ByteArray.mk #[99]), .string (ByteArray.mk #[100]), .string (ByteArray.mk #[101]), .string (ByteArray.mk #[102]), .string (ByteArray.mk #[103]), .string (ByteArray.mk #[104])] 9)) (.slice (some ⟨w.heap.size + 1 + 1 + 1, 0, none⟩) 8 8) (nameN 8) := by
    have := RdE.lit (f := encT) (((w.alloc (.cells #[.int .u8 (a.toNat : Int), .int .u8 gi, .slice ro rr.length rcap] 53)).alloc (.cells #[.string (ByteArray.mk #[]), .slice none 0 0, .slice none 0 0] 48)).alloc (.cells #[] 9)) (nameN 8) 9 (by decide)
    rw [show (((w.alloc (.cells #[.int .u8 (a.toNat : Int), .int .u8 gi, .slice ro rr.length rcap] 53)).alloc (.cells #[.string (ByteArray.mk #[]), .slice none 0 0, .slice none 0 0] 48)).alloc (.cells #[] 9)).heap.size = w.heap.size + 1 + 1 + 1 by simp] at this
    exact this
  obtain ⟨ao8, cap8, e8, -, -, h38⟩ := hlit
  simp only [Value.slice.injEq] at e8
  obtain ⟨rfl, -, rfl⟩ := e8
  obtain ⟨b8, off8, e8', hb8, hc8⟩ := h38 (by decide)
  cases e8'
  have hnl := nameN_length hn
  have hsrc : ∀ (j : Nat) (u : Value), ((nameN n).map encT)[j]? = some u → ((((w.alloc (.cells #[.int .u8 (a.toNat : Int), .int .u8 gi, .slice ro rr.length rcap] 53)).alloc (.cells #[.string (ByteArray.mk #[]), .slice none 0 0, .slice none 0 0] 48)).alloc (.cells #[] 9)).alloc (.cells #[.string (ByteArray.mk #[97]), .string (ByteArray.mk #[98]), .string (ByteArray.mk #[99]), .string (ByteArray.mk #[100]), .string (ByteArray.mk #[101]), .string (ByteArray.mk #[102]), .string (ByteArray.mk #[103]), .string (ByteArray.mk #[104])] 9)).cell? ((⟨w.heap.size + 1 + 1 + 1, 0, none⟩ : Addr).add j) = some u := fun j u hu => by
    rw [List.getElem?_map, Option.map_eq_some_iff] at hu
    obtain ⟨x, hx, rfl⟩ := hu
    have hj : j < n := by have := (List.getElem?_eq_some_iff.1 hx).1; omega
    have hx8 : (nameN 8)[j]? = some x := by
      unfold nameN at hx ⊢
      rw [List.getElem?_take_of_lt hj] at hx
      rw [List.getElem?_take_of_lt (by omega)]; exact hx
    rw [Addr.add_lit]
    exact hc8 j x hx8
  have HC8 := hid hsrc
  have s1 : ∀ u ∈ (nameN n).map encT, u.oneCell' = true := by intro u hu; obtain ⟨x, _, rfl⟩ := List.mem_map.1 hu; rfl
  have S1 := hid s1
  have NL := hid hnl
  obtain ⟨ii, hii, hz0, hz1, hz2⟩ := info_parts infoStr
  clear h38 hc8 hb8 hsrc s1 hnl
  go_enter Tryz.func23, Tryz.ntmps23
  go_wp2_with (at_builtin; go_must (refine wpList_append_own _ rfl _ _ 45 rfl (w.heap.size + 1 + 1) 9 ii (.string (ByteArray.mk #[])) 1 16 undStrs hii hz0 hz1 hz2 rfl (by decide) _ _ _ rfl hown0 ⟨w.heap.size + 1 + 1 + 1, 0, none⟩ n 8 ((nameN n).map encT) rfl (by rw [List.length_map, NL.out]; omega) HC8.out S1.out (by unfold maxLen; omega) (by omega) (by simp) ?_))
  intro v2 w2 hown2 hg2 _
  have hb2 : Below w0.heap.size w0 w2 := by
    rw [← W0.out]
    exact (((Below.refl _ _).alloc (Nat.le_refl _) _).alloc (by simp) _).grown hg2 (by simp) (fun j hj => by simp [Value.ownBlock] at hj; simp; omega)
  have B2 := hid hb2
  have hs2 := hb2.size
  have AV := hid (show RdE encT w2 v2 (nameN n) from RdE.of_owns (by rw [NL.out]; exact hown2) (by rw [NL.out]; omega))
  have AVF := hid (fun (j : Nat) (h : j < w.heap.size + 1 + 1) => far_own hown2 h)
  obtain ⟨ao, acap, hv2⟩ : ∃ ao acap, v2 = .slice ao n acap := by obtain ⟨ao, acap, e, -⟩ := AV.out.split; exact ⟨ao, acap, by rw [e, NL.out]⟩
  subst hv2
  have hbt := below_alloc w2 (.cells #[.string (ByteArray.mk #[114]), .slice ao n acap, .slice none 0 0] 48)
  have T3' := cells3 (w := w2) (a := .string (ByteArray.mk #[114])) (b := .slice ao n acap) (c := .slice none 0 0) (t := 48) _ (Below.refl _ _)
  have hfz2 : (w2.alloc (.cells #[.string (ByteArray.mk #[114]), .slice ao n acap, .slice none 0 0] 48)).frozen? ⟨w2.heap.size, 2, none⟩ = false := by simp
  have ST := hid (And.intro T3' (And.intro hfz2 hbt))
  obtain ⟨tb, htb⟩ : ∃ tb, w2.heap.size = tb := ⟨_, rfl⟩
  have HTB := hid htb
  clear hb2 hg2 hown2 hbt T3' hfz2 HC8 S1 hown0 hx0 htb hz0 hz1 hz2 hii
  have RG := hid (show (rowsRc G n rr).length = rr.length by unfold rowsRc; simp)
  have RN := hid (fun (i : Nat) (r : RcR) (h : rr[i]? = some r) => show (rowsRc G n rr)[i]? = some (idR G i, valsR r n) by unfold rowsRc; rw [List.getElem?_mapIdx, h]; rfl)
  go_wp2_with fail
  rw [HTB.out]
  rw [HTB.out] at ST
  go_loopw [6] (fun i wr => ∃ (k : Nat) (rs : List Row3) (tv : Value), k ≤ rr.length ∧ i = .int .i64 k ∧ (wr.cell? ⟨tb, 0, none⟩ = some (.string (ByteArray.mk #[114])) ∧ wr.cell? ⟨tb, 1, none⟩ = some (.slice ao n acap) ∧ wr.cell? ⟨tb, 2, none⟩ = some tv) ∧ wr.frozen? ⟨tb, 2, none⟩ = false ∧ wr.ownsRow (tb + 1) 87 2 tv rs.length (rs.flatMap cR) ∧ Hid (∀ r ∈ rs, RdV wr r.2.1 r.2.2 ∧ FarV r.2.1 tv.ownBlock ∧ (∀ j, j ≤ tb → FarV r.2.1 (some j))) ∧ Hid (rs.map (fun r => (r.1, r.2.2)) = (rowsRc G n rr).take k) ∧ Below tb w2 wr) (fun i _ => rr.length - (intOf i).toNat)
  case atStart => exact ⟨0, [], _, Nat.zero_le _, rfl, ST.out.1, ST.out.2.1, World.ownsRow_nil _ _ _ _, hid (fun _ h => absurd h (by simp)), hid rfl, by rw [← HTB.out]; exact HTB.out ▸ ST.out.2.2⟩
  case round =>
    obtain ⟨i, rs, tv, hk, rfl, ⟨t0, t1, t2⟩, tf, hown, HRS, HM, hnx⟩ := hrel
    by_cases hlt : i < rr.length
    · obtain ⟨r, hr⟩ := get_some hlt
      obtain ⟨⟨rbk, roff, rfl, hrd⟩, hru⟩ := RC.out i r hr
      have hnx0 : Below w2.heap.size w2 wr := by rw [HTB.out]; exact hnx
      have BW := hid (B2.out.trans (hnx0.mono hs2))
      obtain ⟨q0, q1, q2⟩ := R3.out _ BW.out
      have RNr := hid (RN.out i r hr)
      have i0 : (0 : Int) ≤ (i : Int) := by omega
      have i8 : (i : Int) ≤ 8 := by omega
      have hg3 := HG3.out
      have hP0 : (0 : Int) ≤ (i : Int) * (1 + (G : Int)) := Int.mul_nonneg (by omega) (by omega)
      have hP1 : (i : Int) * (1 + (G : Int)) ≤ 24 := by
        rcases (show G = 0 ∨ G = 1 ∨ G = 2 by omega) with rfl | rfl | rfl <;> simp <;> omega
      have RD := hid hrd
      have RU := hid hru
      have HI := hid (show idR G i = 1 + (i : Int) * (1 + (G : Int)) from rfl)
      obtain ⟨wo, rfl⟩ : ∃ wo : World, wo = wr := ⟨_, rfl⟩
      have HO := hid hown
      have TT := hid (And.intro t0 (And.intro t1 (And.intro t2 tf)))
      have hso : tb < wo.heap.size := World.block_lt_of_cell? _ _ t0
      have hba := below_alloc wo (.cells #[.int .i64 (1 + (i : Int) * (1 + (G : Int))), .slice none 0 0] 87)
      have hrc := cells2 (w := wo) (a := .int .i64 (1 + (i : Int) * (1 + (G : Int)))) (b := .slice none 0 0) (t := 87) _ (Below.refl _ _)
      have hrf : (wo.alloc (.cells #[.int .i64 (1 + (i : Int) * (1 + (G : Int))), .slice none 0 0] 87)).frozen? ⟨wo.heap.size, 1, none⟩ = false := by simp
      have RS := hid (And.intro hrc (And.intro hrf hba))
      have hsw : w0.heap.size ≤ wo.heap.size := BW.out.size
      clear hrd hru hr hnx0 hown hrc hrf hba
      go_wp2_with fail
      rw [hg3]
      clear hg3
      generalize 1 + (i : Int) * (1 + (G : Int)) = rid at *
      generalize (i : Int) * (1 + (G : Int)) = rmul at *
      go_loopw [8] (fun j wr => ∃ (k : Nat) (vv : Value), k ≤ n ∧ j = .int .i64 k ∧ (wr.cell? ⟨wo.heap.size, 0, none⟩ = some (.int .i64 rid) ∧ wr.cell? ⟨wo.heap.size, 1, none⟩ = some vv) ∧ wr.frozen? ⟨wo.heap.size, 1, none⟩ = false ∧ wr.ownsRow (wo.heap.size + 1) 89 3 vv (valsR r k).length ((valsR r k).flatMap cV) ∧ Below wo.heap.size wo wr) (fun j _ => n - (intOf j).toNat)
      case atStart => exact ⟨0, _, Nat.zero_le _, rfl, RS.out.1, RS.out.2.1, World.ownsRow_nil _ _ _ _, RS.out.2.2⟩
      case round =>
        obtain ⟨k, vv, hk2, rfl, ⟨c0, c1⟩, cf, hown2, hnx2⟩ := hrel
        have hsz2 := hnx2.size
        have hvl := valsR_length r k
        have HVL := hid hvl
        have j0 : (0 : Int) ≤ (k : Int) := by omega
        by_cases hlt2 : k < n
        · have BK := hid (BW.out.trans (hnx2.mono hsw))
          obtain ⟨q0', q1', q2'⟩ := R3.out _ BK.out
          have hrow := RD.out _ BK.out
          obtain ⟨co, ccap, hreq, hlen, hcod⟩ := RU.out _ BK.out
          have VN := hid (valsR_next r k)
          have HVB := hid (show (valsR r k).length < 2199023255552 by omega)
          have hrb : wo.heap.size < wr.heap.size := World.block_lt_of_cell? _ _ c1
          rw [hreq] at hrow
          have KS := hid (fun (W : World) (h : Below wr.heap.size wr W) => And.intro ((h.cell (p := ⟨wo.heap.size, 0, none⟩) hrb).trans c0) (And.intro ((h.cell (p := ⟨wo.heap.size, 1, none⟩) hrb).trans c1) ((h.frozen (p := ⟨wo.heap.size, 1, none⟩) hrb).trans cf)))
          have HVC := hid (fun x : V3 => show (valsR r k ++ [x]).length ≤ 35184372088832 by rw [List.length_append, valsR_length]; simp; omega)
          have HNE := hid (show some wo.heap.size ≠ vv.ownBlock from fun e => by have := (hown2.lt _ e.symm).1; omega)
          clear hvl
          by_cases hcl : k < r.2.1
          · obtain ⟨cb, coff, rfl, -, hcc⟩ := hcod k hcl
            have hcc' : wr.cell? ⟨cb, coff + k, none⟩ = some (.int .u8 ((r.2.2 k).toNat : Int)) := hcc
            have CV := hid (fun (W : World) => code_any (r.2.2 k) W)
            rw [show (r.2.2 k).toNat % 12 = codeR r k by unfold codeR; rw [if_pos hcl]] at CV
            generalize codeV (codeR r k) = x at *
            generalize ((r.2.2 k).toNat : Int) = cint at *
            clear hcod hcc hreq
            go_wp2_with fail
            go_region_law (first
              | (go_simp; go_at_call 52; refine (CV.out _).mono ?_; rintro e w5 ⟨rfl, hb5⟩; have hL := (below_drewN wr.heap.size wr 1).trans hb5; have hq5 : wo.heap.size + 1 ≤ w5.heap.size := (by have := hL.size; omega); have ho5 := own_below hown2.drew hb5; obtain ⟨d0, d1, d2⟩ := KS.out _ hL; obtain ⟨a0, a1, a2⟩ := KS.out _ (hL.alloc hL.size (.cells #[.int .i64 x.1, .int .i64 x.2.1, .string x.2.2] 89)); clear hb5)
              | ((have hA := ho5.alloc (.cells #[.int .i64 x.1, .int .i64 x.2.1, .string x.2.2] 89); have hB : wo.heap.size + 1 ≤ (w5.alloc (.cells #[.int .i64 x.1, .int .i64 x.2.1, .string x.2.2] 89)).heap.size := Nat.le_trans hq5 (by simp); refine step_pushC (by rfl) _ _ 85 (by rfl) (wo.heap.size + 1) 89 (.agg #[.int .i64 0, .int .i64 0, .string (ByteArray.mk #[])]) 3 32 undVs infoV rfl (by decide) (by decide) cV cV_length cV_one _ (valsR r k) (by rfl) hA ⟨w5.heap.size, 0, none⟩ x (by rfl) (cells_newV w5 x) HVB.out hB ?_; intro v6 w6 hown6 hgrow; obtain ⟨ao6, cap6, rfl, -⟩ := RdC.of_owns cV_length hown6 (HVC.out x); have f0 := (hgrow.cell_far ⟨wo.heap.size, 0, none⟩ (World.block_lt_of_cell? _ _ a0) HNE.out).trans a0; have f1 := (hgrow.cell_far ⟨wo.heap.size, 1, none⟩ (World.block_lt_of_cell? _ _ a1) HNE.out).trans a1; have f2 := (hgrow.frozen_far ⟨wo.heap.size, 1, none⟩ (World.block_lt_of_cell? _ _ a1) HNE.out).trans a2)))
            all_goals
              have hb6 := below_push (hnx2.trans (hL.mono hsz2)) (Nat.le_of_succ_le hq5) (own_mono ho5 (by omega)) hgrow
              rw [show (valsR r k).length + 1 = (valsR r k ++ [x]).length by simp]
              have OW6 := hid (ownsRow_setCell_other hown6 (a := ⟨wo.heap.size, 1, none⟩) (fun e => Nat.not_succ_le_self _ (hown6.lt _ e).1) (.slice ao6 (valsR r k ++ [x]).length cap6))
              have B6 := hid (hb6.setCell (p := ⟨wo.heap.size, 1, none⟩) (by simp) (.slice ao6 (valsR r k ++ [x]).length cap6))
              have g0 : (w6.setCell ⟨wo.heap.size, 1, none⟩ (.slice ao6 (valsR r k ++ [x]).length cap6)).cell? ⟨wo.heap.size, 0, none⟩ = some (.int .i64 rid) := (World.cell?_setCell_other _ _ _ _ (by simp)).trans f0
              have g1 : (w6.setCell ⟨wo.heap.size, 1, none⟩ (.slice ao6 (valsR r k ++ [x]).length cap6)).cell? ⟨wo.heap.size, 1, none⟩ = some (.slice ao6 (valsR r k ++ [x]).length cap6) := World.cell?_setCell_same _ _ _ f1
              have g2 : (w6.setCell ⟨wo.heap.size, 1, none⟩ (.slice ao6 (valsR r k ++ [x]).length cap6)).frozen? ⟨wo.heap.size, 1, none⟩ = false := by simp [f2]
              have GG := hid (And.intro g0 (And.intro g1 g2))
              clear g0 g1 g2 f0 f1 f2 a0 a1 a2 d0 d1 d2 hA hB hgrow hb6 hown6 hL ho5 hq5
              generalize w6.setCell ⟨wo.heap.size, 1, none⟩ (.slice ao6 (valsR r k ++ [x]).length cap6) = w7 at *
              go_wp2_with fail
              go_roundw
              case rel => exact ⟨k + 1, _, by omega, by go_num, ⟨GG.out.1, GG.out.2.1⟩, GG.out.2.2, by rw [VN.out]; exact OW6.out, B6.out⟩
              case measure => simp [intOf]; omega
          · have CV := hid (fun (W : World) => code_any 0 W)
            rw [show (0 : U8).toNat % 12 = codeR r k by unfold codeR; rw [if_neg hcl]; rfl] at CV
            have hcl0 : ¬ ((k : Int) < (r.2.1 : Int)) := by omega
            generalize codeV (codeR r k) = x at *
            clear hcod hreq
            go_wp2_with fail
            go_region_law (first
              | (go_simp; go_at_call 52; refine (CV.out _).mono ?_; rintro e w5 ⟨rfl, hb5⟩; have hL := (below_drewN wr.heap.size wr 1).trans hb5; have hq5 : wo.heap.size + 1 ≤ w5.heap.size := (by have := hL.size; omega); have ho5 := own_below hown2.drew hb5; obtain ⟨d0, d1, d2⟩ := KS.out _ hL; obtain ⟨a0, a1, a2⟩ := KS.out _ (hL.alloc hL.size (.cells #[.int .i64 x.1, .int .i64 x.2.1, .string x.2.2] 89)); clear hb5)
              | ((have hA := ho5.alloc (.cells #[.int .i64 x.1, .int .i64 x.2.1, .string x.2.2] 89); have hB : wo.heap.size + 1 ≤ (w5.alloc (.cells #[.int .i64 x.1, .int .i64 x.2.1, .string x.2.2] 89)).heap.size := Nat.le_trans hq5 (by simp); refine step_pushC (by rfl) _ _ 85 (by rfl) (wo.heap.size + 1) 89 (.agg #[.int .i64 0, .int .i64 0, .string (ByteArray.mk #[])]) 3 32 undVs infoV rfl (by decide) (by decide) cV cV_length cV_one _ (valsR r k) (by rfl) hA ⟨w5.heap.size, 0, none⟩ x (by rfl) (cells_newV w5 x) HVB.out hB ?_; intro v6 w6 hown6 hgrow; obtain ⟨ao6, cap6, rfl, -⟩ := RdC.of_owns cV_length hown6 (HVC.out x); have f0 := (hgrow.cell_far ⟨wo.heap.size, 0, none⟩ (World.block_lt_of_cell? _ _ a0) HNE.out).trans a0; have f1 := (hgrow.cell_far ⟨wo.heap.size, 1, none⟩ (World.block_lt_of_cell? _ _ a1) HNE.out).trans a1; have f2 := (hgrow.frozen_far ⟨wo.heap.size, 1, none⟩ (World.block_lt_of_cell? _ _ a1) HNE.out).trans a2)))
            all_goals
              have hb6 := below_push (hnx2.trans (hL.mono hsz2)) (Nat.le_of_succ_le hq5) (own_mono ho5 (by omega)) hgrow
              rw [show (valsR r k).length + 1 = (valsR r k ++ [x]).length by simp]
              have OW6 := hid (ownsRow_setCell_other hown6 (a := ⟨wo.heap.size, 1, none⟩) (fun e => Nat.not_succ_le_self _ (hown6.lt _ e).1) (.slice ao6 (valsR r k ++ [x]).length cap6))
              have B6 := hid (hb6.setCell (p := ⟨wo.heap.size, 1, none⟩) (by simp) (.slice ao6 (valsR r k ++ [x]).length cap6))
              have g0 : (w6.setCell ⟨wo.heap.size, 1, none⟩ (.slice ao6 (valsR r k ++ [x]).length cap6)).cell? ⟨wo.heap.size, 0, none⟩ = some (.int .i64 rid) := (World.cell?_setCell_other _ _ _ _ (by simp)).trans f0
              have g1 : (w6.setCell ⟨wo.heap.size, 1, none⟩ (.slice ao6 (valsR r k ++ [x]).length cap6)).cell? ⟨wo.heap.size, 1, none⟩ = some (.slice ao6 (valsR r k ++ [x]).length cap6) := World.cell?_setCell_same _ _ _ f1
              have g2 : (w6.setCell ⟨wo.heap.size, 1, none⟩ (.slice ao6 (valsR r k ++ [x]).length cap6)).frozen? ⟨wo.heap.size, 1, none⟩ = false := by simp [f2]
              have GG := hid (And.intro g0 (And.intro g1 g2))
              clear g0 g1 g2 f0 f1 f2 a0 a1 a2 d0 d1 d2 hA hB hgrow hb6 hown6 hL ho5 hq5
              generalize w6.setCell ⟨wo.heap.size, 1, none⟩ (.slice ao6 (valsR r k ++ [x]).length cap6) = w7 at *
              go_wp2_with fail
              go_roundw
              case rel => exact ⟨k + 1, _, by omega, by go_num, ⟨GG.out.1, GG.out.2.1⟩, GG.out.2.2, by rw [VN.out]; exact OW6.out, B6.out⟩
              case measure => simp [intOf]; omega
        · obtain rfl : n = k := by omega
          have RVv := hid (RdC.of_owns cV_length hown2 (by omega))
          obtain ⟨ov, vcap, rfl, -⟩ := RdC.of_owns cV_length hown2 (by omega)
          have t0 := (hnx2.cell (p := ⟨tb, 0, none⟩) hso).trans TT.out.1
          have t1 := (hnx2.cell (p := ⟨tb, 1, none⟩) hso).trans TT.out.2.1
          have t2 := (hnx2.cell (p := ⟨tb, 2, none⟩) hso).trans TT.out.2.2.1
          have tf := (hnx2.frozen (p := ⟨tb, 2, none⟩) hso).trans TT.out.2.2.2
          have O2 := hid (own_below HO.out hnx2)
          have HNT := hid (show some tb ≠ tv.ownBlock from fun e => Nat.not_succ_le_self _ (HO.out.lt _ e.symm).1)
          have HRL := hid (show rs.length ≤ 8 by have := congrArg List.length HM.out; simp at this; omega)
          have HV2 := hid hown2
          have T2 := hid (And.intro t0 (And.intro t1 (And.intro t2 tf)))
          have HSO := hid (Nat.lt_of_lt_of_le hso hsz2)
          clear hvl hown2
          go_wp2_with (at_builtin; (refine wpList_pushB rfl _ _ 46 rfl (tb + 1) 87 (.agg #[.int .i64 0, .slice none 0 0]) 2 32 undRows infoRow rfl (by decide) (by decide) cR cR_length _ rs rfl (O2.out.alloc (.cells #[.int .i64 rid, .slice ov (valsR r n).length vcap] 87)) ⟨wr.heap.size, 0, none⟩ ((rid, Value.slice ov (valsR r n).length vcap, valsR r n) : Row3) (by intro u hu; simp [cR] at hu; rcases hu with rfl | rfl <;> rfl) rfl (cells_newR wr ((rid, Value.slice ov (valsR r n).length vcap, valsR r n) : Row3)) (by have := HRL.out; omega) (by have := HSO.out; simp; omega) ?_))
          intro v8 w8 hown8' hg8 hv8
          have hown8 : w8.ownsRow (tb + 1) 87 2 v8 (rs ++ [((rid, Value.slice ov (valsR r n).length vcap, valsR r n) : Row3)]).length ((rs ++ [((rid, Value.slice ov (valsR r n).length vcap, valsR r n) : Row3)]).flatMap cR) := by simpa using hown8'
          clear hown8'
          obtain ⟨o8, cap8, rfl, -⟩ := RdC.of_owns cR_length hown8 (show (rs ++ [((rid, Value.slice ov (valsR r n).length vcap, valsR r n) : Row3)]).length ≤ 35184372088832 by have := HRL.out; rw [List.length_append, List.length_singleton]; omega)
          have la : tb < (wr.alloc (.cells #[.int .i64 rid, .slice ov (valsR r n).length vcap] 87)).heap.size := by have := HSO.out; simp; omega
          have u0 := (hg8.cell_far ⟨tb, 0, none⟩ la HNT.out).trans (((below_alloc wr _).cell (p := ⟨tb, 0, none⟩) HSO.out).trans t0)
          have u1 := (hg8.cell_far ⟨tb, 1, none⟩ la HNT.out).trans (((below_alloc wr _).cell (p := ⟨tb, 1, none⟩) HSO.out).trans t1)
          have u2 := (hg8.cell_far ⟨tb, 2, none⟩ la HNT.out).trans (((below_alloc wr _).cell (p := ⟨tb, 2, none⟩) HSO.out).trans t2)
          have uf := (hg8.frozen_far ⟨tb, 2, none⟩ la HNT.out).trans (((below_alloc wr _).frozen (p := ⟨tb, 2, none⟩) HSO.out).trans tf)
          have OW9 := hid (ownsRow_setCell_other hown8 (a := ⟨tb, 2, none⟩) (fun e => Nat.not_succ_le_self _ (hown8.lt _ e).1) (.slice o8 (rs ++ [((rid, Value.slice ov (valsR r n).length vcap, valsR r n) : Row3)]).length cap8))
          have hb8 := below_push (hnx.trans (hnx2.mono (Nat.le_of_lt hso))) (Nat.le_of_lt HSO.out) (own_mono O2.out (Nat.le_succ _)) hg8
          have B9 := hid (hb8.setCell (p := ⟨tb, 2, none⟩) (Nat.le_refl _) (.slice o8 (rs ++ [((rid, Value.slice ov (valsR r n).length vcap, valsR r n) : Row3)]).length cap8))
          have HM9 := hid (show (rs ++ [((rid, Value.slice ov (valsR r n).length vcap, valsR r n) : Row3)]).map (fun r => (r.1, r.2.2)) = (rowsRc G n rr).take (i + 1) by rw [List.map_append, HM.out, List.take_add_one, RNr.out, HI.out]; rfl)
          have pv : ∀ (a : Addr) (len cap : Nat), (Value.slice ov (valsR r n).length vcap) = .slice (some a) len cap → (Value.slice ov (valsR r n).length vcap).ownBlock = some a.block := by intro a len cap e; cases e; rfl
          have HR9 := hid (show ∀ r' ∈ rs ++ [((rid, Value.slice ov (valsR r n).length vcap, valsR r n) : Row3)], RdV (w8.setCell ⟨tb, 2, none⟩ (.slice o8 (rs ++ [((rid, Value.slice ov (valsR r n).length vcap, valsR r n) : Row3)]).length cap8)) r'.2.1 r'.2.2 ∧ FarV r'.2.1 (Value.slice o8 (rs ++ [((rid, Value.slice ov (valsR r n).length vcap, valsR r n) : Row3)]).length cap8).ownBlock ∧ (∀ j, j ≤ tb → FarV r'.2.1 (some j)) by
            intro r' hr'
            rcases List.mem_append.1 hr' with h | h
            · obtain ⟨p1, p2, p3⟩ := HRS.out r' h
              have p4 := RdC.grown ((RdC.below p1 hnx2).below (below_alloc wr _)) hg8 p2
              refine ⟨RdC.setFar p4 (p3 tb (Nat.le_refl _)), ?_, p3⟩
              rcases hv8 with e | e
              · rw [e]; exact p2
              · rw [e]; intro a len cap e1 hl e2
                obtain ⟨ao', cap', e3, -, -, h3⟩ := p1
                rw [e3] at e1; cases e1
                obtain ⟨b, off, e4, hlt, -⟩ := h3 hl
                cases e4; simp at e2; omega
            · obtain rfl := List.mem_singleton.1 h
              have pt : FarV (Value.slice ov (valsR r n).length vcap) tv.ownBlock := fun a len cap e1 _ e2 => by have h1 := (HV2.out.lt _ (pv _ _ _ e1)).1; have h2 := (HO.out.lt _ e2).2; omega
              have pb : ∀ j, j ≤ tb → FarV (Value.slice ov (valsR r n).length vcap) (some j) := fun j hj a len cap e1 _ e2 => by have h1 := (HV2.out.lt _ (pv _ _ _ e1)).1; simp at e2; omega
              have p4 := RdC.grown (RdC.below RVv.out (below_alloc wr _)) hg8 pt
              refine ⟨RdC.setFar p4 (pb tb (Nat.le_refl _)), ?_, pb⟩
              rcases hv8 with e | e
              · rw [e]; exact pt
              · rw [e]; intro a len cap e1 _ e2
                have h1 := (HV2.out.lt _ (pv _ _ _ e1)).2
                simp at e2; omega)
          have g0 : (w8.setCell ⟨tb, 2, none⟩ (.slice o8 (rs ++ [((rid, Value.slice ov (valsR r n).length vcap, valsR r n) : Row3)]).length cap8)).cell? ⟨tb, 0, none⟩ = _ := (World.cell?_setCell_other _ _ _ _ (by simp)).trans u0
          have g1 : (w8.setCell ⟨tb, 2, none⟩ (.slice o8 (rs ++ [((rid, Value.slice ov (valsR r n).length vcap, valsR r n) : Row3)]).length cap8)).cell? ⟨tb, 1, none⟩ = _ := (World.cell?_setCell_other _ _ _ _ (by simp)).trans u1
          have g2 : (w8.setCell ⟨tb, 2, none⟩ (.slice o8 (rs ++ [((rid, Value.slice ov (valsR r n).length vcap, valsR r n) : Row3)]).length cap8)).cell? ⟨tb, 2, none⟩ = some (.slice o8 (rs ++ [((rid, Value.slice ov (valsR r n).length vcap, valsR r n) : Row3)]).length cap8) := World.cell?_setCell_same _ _ _ u2
          have gf : (w8.setCell ⟨tb, 2, none⟩ (.slice o8 (rs ++ [((rid, Value.slice ov (valsR r n).length vcap, valsR r n) : Row3)]).length cap8)).frozen? ⟨tb, 2, none⟩ = false := by simp [uf]
          have GG := hid (And.intro g0 (And.intro g1 (And.intro g2 gf)))
          clear g0 g1 g2 gf hown8 hg8 hv8 hb8 pv
          go_wp2_with fail
          try rw [show rs.length + 1 = (rs ++ [((rid, Value.slice ov (valsR r n).length vcap, valsR r n) : Row3)]).length by simp]
          generalize w8.setCell ⟨tb, 2, none⟩ (.slice o8 (rs ++ [((rid, Value.slice ov (valsR r n).length vcap, valsR r n) : Row3)]).length cap8) = w9 at *
          go_wp2_with fail
          go_roundw
          case rel => exact ⟨i + 1, rs ++ [((rid, Value.slice ov (valsR r n).length vcap, valsR r n) : Row3)], _, by omega, by go_num, ⟨GG.out.1, GG.out.2.1, GG.out.2.2.1⟩, GG.out.2.2.2, OW9.out, HR9, HM9, B9.out⟩
          case measure => simp [intOf]; omega
    · obtain rfl : i = rr.length := by omega
      have HRL := hid (show rs.length ≤ 8 by have := congrArg List.length HM.out; simp at this; omega)
      have RT := hid (show RdC cR wr tv rs from RdC.of_owns cR_length hown (by have := HRL.out; omega))
      have HMf := hid (show rs.map (fun r => (r.1, r.2.2)) = rowsRc G n rr by rw [HM.out]; exact List.take_of_length_le (by rw [RG.out]; exact Nat.le_refl _))
      have hnx0 : Below w2.heap.size w2 wr := by rw [HTB.out]; exact hnx
      have AV9 := hid (AV.out.below hnx0)
      have BF := hid ((B0.out.trans (B2.out.mono hsz0)).trans (hnx0.mono (Nat.le_trans hsz0 hs2)))
      obtain ⟨ot, tcap, rfl, -⟩ := RdC.of_owns cR_length hown (by have := HRL.out; omega)
      obtain ⟨q0, q1, q2⟩ := R3.out _ (B2.out.trans (hnx0.mono hs2))
      obtain ⟨⟨z0, z1, z2⟩, zf⟩ := Z3.out _ (B2.out.trans (hnx0.mono hs2))
      have zf0 := zf 0
      have zf1 := zf 1
      have zf2 := zf 2
      have hfar := hid (show ∀ r ∈ rs, RdV wr r.2.1 r.2.2 from fun r hr => (HRS.out r hr).1)
      clear zf
      go_wp2_with fail
      obtain ⟨wf, hwf⟩ : ∃ wf : World, ((wr.setCell ⟨w.heap.size + 1, 0, none⟩ (.string (ByteArray.mk #[114]))).setCell ⟨w.heap.size + 1, 1, none⟩ (.slice ao n acap)).setCell ⟨w.heap.size + 1, 2, none⟩ (.slice ot rs.length tcap) = wf := ⟨_, rfl⟩
      obtain ⟨r0, r1, r2⟩ := set3w z0 z1 z2 hwf
      have htb1 : w.heap.size + 1 ≤ tb := by have h1 := HTB.out; have h2 := HS0.out; omega
      have QA : RdE encT wf (.slice ao n acap) (nameN n) := by rw [← hwf]; exact RdE.set3 AV9.out (AVF.out _ (by omega))
      have QR : RdC cR wf (.slice ot rs.length tcap) rs := by rw [← hwf]; exact RdC.set3 RT.out (far_own hown (by omega))
      have QV : ∀ r ∈ rs, RdV wf r.2.1 r.2.2 := fun r hr => by rw [← hwf]; exact RdC.set3 (hfar.out r hr) ((HRS.out r hr).2.2 _ htb1)
      have QB : Below w.heap.size w wf := by rw [← hwf]; exact ((BF.out.setCell (p := ⟨w.heap.size + 1, 0, none⟩) (by simp) _).setCell (p := ⟨w.heap.size + 1, 1, none⟩) (by simp) _).setCell (p := ⟨w.heap.size + 1, 2, none⟩) (by simp) _
      rw [hwf]
      exact bodyPost_ret (v := .agg #[.string (ByteArray.mk #[114]), .slice ao n acap, .slice ot rs.length tcap]) (by simp [results, Tryz.results23, go_sem, r0, r1, r2]) rfl ⟨_, _, rs, rfl, ⟨QA, QR, QV⟩, HMf.out, fun j hj => ⟨AVF.out j (by omega), far_own hown (by omega), fun r hr => (HRS.out r hr).2.2 j (by omega)⟩, QB⟩

end Go.Proofs.YtgahpgmagfngfaaGreatDoor


/- The tables of recipes are valid. No program. -/
namespace Go.Proofs.YtgahpgmagfngfaaGreatDoor
open Go.RowKit
set_option linter.unusedSimpArgs false

theorem nm_ok : nameB (ByteArray.mk #[114]) = true ∧ (∀ s ∈ nameN 8, nameB s = true) := by
  refine ⟨?_, ?_⟩
  · unfold nameB; simp only [ByteArray.toList_eq]; decide +kernel
  · intro s hs
    unfold nameN at hs
    simp only [List.take_succ_cons, List.take_zero, List.mem_cons, List.not_mem_nil, or_false] at hs
    rcases hs with rfl | rfl | rfl | rfl | rfl | rfl | rfl | rfl <;> (unfold nameB; simp only [ByteArray.toList_eq]; decide +kernel)
theorem attrsBad_take {ats : List ByteArray} (h : attrsBad ats = false) (n : Nat) : attrsBad (ats.take n) = false := by
  unfold attrsBad at *
  rw [List.any_eq_false] at *
  intro i hi
  have hi' := List.mem_range.1 hi
  rw [List.length_take] at hi'
  have h1 := h i (List.mem_range.2 (by omega))
  unfold attrBad at *
  rw [List.take_take, show min i n = i by omega]
  have e : (ats.take n).getD i (ByteArray.mk #[]) = ats.getD i (ByteArray.mk #[]) := by
    rw [List.getD_eq_getElem?_getD, List.getD_eq_getElem?_getD, List.getElem?_take_of_lt (by omega)]
  rw [e]; exact h1
theorem nm_attrs (n : Nat) : attrsBad (nameN n) = false := by
  have h8 : attrsBad (nameN 8) = false := by
    have H := nm_ok.2
    have q : ∀ i, i < 8 → nameB ((nameN 8).getD i (ByteArray.mk #[])) = true := fun i hi => by
      apply H
      rw [List.getD_eq_getElem?_getD, List.getElem?_eq_getElem (by rw [nameN_length (by omega)]; exact hi)]
      exact List.getElem_mem _
    unfold attrsBad attrBad
    rw [nameN_length (by omega), List.any_eq_false]
    intro i hi
    have hi' := List.mem_range.1 hi
    rw [q i hi']
    unfold nameN eqT
    rcases (show i = 0 ∨ i = 1 ∨ i = 2 ∨ i = 3 ∨ i = 4 ∨ i = 5 ∨ i = 6 ∨ i = 7 by omega) with rfl | rfl | rfl | rfl | rfl | rfl | rfl | rfl <;> simp [ByteArray.toList_eq]
  have := attrsBad_take h8 n
  unfold nameN at *
  rw [List.take_take] at this
  by_cases h : n ≤ 8
  · rwa [show min n 8 = n by omega] at this
  · rw [show min n 8 = 8 by omega] at this
    rw [List.take_of_length_le (by simp; omega)]
    rw [List.take_of_length_le (by simp)] at this
    exact this
theorem vals_ok (r : RcR) (n : Nat) : (valsR r n).any badV = false := by
  rw [List.any_eq_false]
  intro x hx
  unfold valsR at hx
  obtain ⟨k, _, rfl⟩ := List.mem_map.1 hx
  rw [code_ok]; simp
theorem idR_next (g k : Nat) : idR g k < idR g (k + 1) := by
  unfold idR
  rw [Int.natCast_add, Int.add_mul]
  omega
theorem rowsE_rec (g n : Nat) : ∀ (rs : List Row3) (k : Nat) (last : Int), (∀ (j : Nat) (r : Row3), rs[j]? = some r → r.1 = idR g (k + j) ∧ ∃ q, r.2.2 = valsR q n) → last < idR g k → rowsE last n rs = 0 := by
  intro rs
  induction rs with
  | nil => intro k last _ _; rfl
  | cons r rs ih =>
    intro k last h hl
    obtain ⟨h1, q, h2⟩ := h 0 r rfl
    unfold rowsE
    rw [if_neg (by rw [h1, Nat.add_zero]; omega), if_neg (by rw [h2, valsR_length]; simp), if_neg (by rw [h2, vals_ok]; simp)]
    refine ih (k + 1) r.1 (fun j r' hr' => ?_) (by rw [h1, Nat.add_zero]; exact idR_next g k)
    have := h (j + 1) r' (by simpa using hr')
    rw [show k + 1 + j = k + (j + 1) by omega]; exact this
/-- The numbers are of 64 bits. -/
def NumR (rs : List Row3) : Prop := ∀ r ∈ rs, ∀ x ∈ r.2.2, -9223372036854775808 ≤ x.2.1 ∧ x.2.1 < 9223372036854775808
theorem code_num (c : Nat) : -9223372036854775808 ≤ (codeV c).2.1 ∧ (codeV c).2.1 < 9223372036854775808 := by
  unfold codeV
  split <;> decide
/-- What is asked of the table of a recipe. -/
def GoodT (t : T3) : Prop := tabE2 t = 0 ∧ t.2.1.length ≤ 5 ∧ t.2.2.length ≤ 8 ∧ NumR t.2.2
theorem rec_good {g n : Nat} {rr : List RcR} {rs : List Row3} (hn : n ≤ 8) (h8 : rr.length ≤ 8) (h : rs.map (fun r => (r.1, r.2.2)) = rowsRc g n rr) : tabE2 (ByteArray.mk #[114], nameN n, rs) = 0 ∧ rs.length ≤ 8 ∧ NumR rs := by
  have hl : rs.length = rr.length := by have := congrArg List.length h; simpa [rowsRc] using this
  have hnum : NumR rs := by
    intro r hr x hx
    have e : (r.1, r.2.2) ∈ rowsRc g n rr := by rw [← h]; exact List.mem_map.2 ⟨r, hr, rfl⟩
    unfold rowsRc at e
    obtain ⟨i, hi, e⟩ := List.mem_mapIdx.1 e
    simp only [Prod.mk.injEq] at e
    rw [← e.2] at hx
    unfold valsR at hx
    obtain ⟨k, _, rfl⟩ := List.mem_map.1 hx
    exact code_num _
  refine ⟨?_, by omega, hnum⟩
  have h3 : rowsE 0 n rs = 0 := by
    refine rowsE_rec g n rs 0 0 (fun j r hr => ?_) (by unfold idR; simp)
    have e := congrArg (fun l => l[j]?) h
    simp only [List.getElem?_map, hr, Option.map_some, rowsRc, List.getElem?_mapIdx] at e
    have hj : j < rr.length := by have := (List.getElem?_eq_some_iff.1 hr).1; omega
    rw [List.getElem?_eq_getElem hj, Option.map_some, Option.some.injEq, Prod.mk.injEq] at e
    exact ⟨by rw [Nat.zero_add]; exact e.1, _, e.2⟩
  have h4 : tabE (ByteArray.mk #[114], nameN n, rs) = 0 := by
    unfold tabE
    simp only
    rw [nm_ok.1, nm_attrs, nameN_length hn, if_neg (by simp), if_neg (by omega), if_neg (by simp)]
    exact h3
  unfold tabE2
  rw [h4, if_neg (by simp), if_neg (by simp only; omega)]

end Go.Proofs.YtgahpgmagfngfaaGreatDoor


/- The walk of drossref03.Table. -/
namespace Go.Proofs.YtgahpgmagfngfaaGreatDoor
open Go.RowKit
set_option linter.unusedVariables false

theorem RdT.set3 {W : World} {x y z av rv : Value} {t : T3} {b : Nat} (h : RdT W av rv t) (h1 : FarV av (some b)) (h2 : FarV rv (some b)) (h3 : ∀ r ∈ t.2.2, FarV r.2.1 (some b)) : RdT (((W.setCell ⟨b, 0, none⟩ x).setCell ⟨b, 1, none⟩ y).setCell ⟨b, 2, none⟩ z) av rv t :=
  ⟨RdE.set3 h.1 h1, RdC.set3 h.2.1 h2, fun r hr => RdC.set3 (h.2.2 r hr) (h3 r hr)⟩
theorem below_set3 {B : Nat} {w W : World} {x y z : Value} {b : Nat} (h : Below B w W) (hb : B ≤ b) : Below B w (((W.setCell ⟨b, 0, none⟩ x).setCell ⟨b, 1, none⟩ y).setCell ⟨b, 2, none⟩ z) :=
  ((h.setCell (p := ⟨b, 0, none⟩) hb x).setCell (p := ⟨b, 1, none⟩) hb y).setCell (p := ⟨b, 2, none⟩) hb z
/-- What two allocations, a recipe's and a table's, leave in each later world. -/
theorem two_cells (w : World) (x y z : Value) (tr tt : TypeId) (W : World) (h : Below ((w.alloc (.cells #[x, y, z] tr)).alloc (.cells #[.string (ByteArray.mk #[]), .slice none 0 0, .slice none 0 0] tt)).heap.size ((w.alloc (.cells #[x, y, z] tr)).alloc (.cells #[.string (ByteArray.mk #[]), .slice none 0 0, .slice none 0 0] tt)) W) :
    (W.cell? ⟨w.heap.size, 0, none⟩ = some x ∧ W.cell? ⟨w.heap.size, 1, none⟩ = some y ∧ W.cell? ⟨w.heap.size, 2, none⟩ = some z) ∧
    (W.cell? ⟨w.heap.size + 1, 0, none⟩ = some (.string (ByteArray.mk #[])) ∧ W.cell? ⟨w.heap.size + 1, 1, none⟩ = some (.slice none 0 0) ∧ W.cell? ⟨w.heap.size + 1, 2, none⟩ = some (.slice none 0 0)) ∧ ∀ i : Nat, W.frozen? ⟨w.heap.size + 1, i, none⟩ = false := by
  have hb01 := below_alloc (w.alloc (.cells #[x, y, z] tr)) (.cells #[.string (ByteArray.mk #[]), .slice none 0 0, .slice none 0 0] tt)
  refine ⟨cells3 W (hb01.trans (h.mono hb01.size)), ?_, fun i => ?_⟩
  · have := cells3 (w := w.alloc (.cells #[x, y, z] tr)) W h
    rwa [show (w.alloc (.cells #[x, y, z] tr)).heap.size = w.heap.size + 1 by simp] at this
  · refine (h.frozen (p := ⟨w.heap.size + 1, i, none⟩) (by simp)).trans ?_
    have : (w.alloc (.cells #[x, y, z] tr)).heap.size = w.heap.size + 1 := by simp
    rw [← this]; simp

set_option maxHeartbeats 1600000 in
theorem table_ok (a g : U8) (rr : List RcR) (rv : Value) (most : Nat) (w : World) (hr : RdRc w rv rr) (hm : rr.length ≤ most) (hm8 : most ≤ 8) :
    Calls Tryz.prog 10 #[.agg #[.int .u8 (a.toNat : Int), .int .u8 (g.toNat : Int), rv], .int .i64 (most : Int)] w fun e w' => ∃ (av tv : Value) (t : T3), e = .returned (.tuple #[.agg #[.string t.1, av, tv], .bool true]) ∧ RdT w' av tv t ∧ GoodT t ∧ t.2.2.length ≤ most ∧ t.2.1.length = a.toNat % 6 ∧ FreT w.heap.size av tv t.2.2 ∧ Below w.heap.size w w' := by
  have hah : (a.toNat : Int) ≤ 255 := by have := a.isLt; omega
  have ha0 : (0 : Int) ≤ (a.toNat : Int) := by omega
  obtain ⟨K, hK⟩ : ∃ K, a.toNat % 6 = K := ⟨_, rfl⟩
  have hK6 : K < 6 := by omega
  have hK2 : (a.toNat : Int) % 6 = (K : Int) := by omega
  have K0 : (0 : Int) ≤ (K : Int) := by omega
  have K8 : (K : Int) < 256 := by omega
  rw [hK]
  have CW := hid (fun (W : World) (h : RdRc W rv rr) => wide_any a g rr rv K W h (by omega) (Nat.le_trans hm hm8))
  have GOOD := hid (fun (rs : List Row3) (h : rs.map (fun r => (r.1, r.2.2)) = rowsRc (g.toNat % 3) K rr) => (⟨⟨(rec_good (by omega) (Nat.le_trans hm hm8) h).1, by show (nameN K).length ≤ 5; rw [nameN_length (by omega)]; omega, (rec_good (by omega) (Nat.le_trans hm hm8) h).2⟩, by have := congrArg List.length h; simp [rowsRc] at this; show rs.length ≤ most; omega, by show (nameN K).length = K; exact nameN_length (by omega)⟩ : GoodT (ByteArray.mk #[114], nameN K, rs) ∧ (ByteArray.mk #[114], nameN K, rs).2.2.length ≤ most ∧ (ByteArray.mk #[114], nameN K, rs).2.1.length = K))
  have TC := hid (fun W h => two_cells w (.int .u8 (a.toNat : Int)) (.int .u8 (g.toNat : Int)) rv 53 48 W h)
  have RK := hid hK2
  generalize (a.toNat : Int) = ai at *
  generalize (g.toNat : Int) = gi at *
  have hb00 := below_alloc w (.cells #[.int .u8 ai, .int .u8 gi, rv] 53)
  have hb01 := below_alloc (w.alloc (.cells #[.int .u8 ai, .int .u8 gi, rv] 53)) (.cells #[.string (ByteArray.mk #[]), .slice none 0 0, .slice none 0 0] 48)
  have hb0 := hb00.trans (hb01.mono hb00.size)
  have RR := hid (hr.below hb0)
  obtain ⟨w0, hw0⟩ : ∃ w0 : World, (w.alloc (.cells #[.int .u8 ai, .int .u8 gi, rv] 53)).alloc (.cells #[.string (ByteArray.mk #[]), .slice none 0 0, .slice none 0 0] 48) = w0 := ⟨_, rfl⟩
  have hs0 : w0.heap.size = w.heap.size + 1 + 1 := by rw [← hw0]; simp
  rw [hw0] at hb0 RR TC
  have B0 := hid hb0
  have W0 := hid hw0
  have HS0 := hid hs0
  obtain ⟨ro, rcap, hv, hrl, hrc⟩ := RR.out.split
  subst hv
  have hlm : ¬ ((rr.length : Int) > (most : Int)) := by omega
  obtain ⟨⟨q0, q1, q2⟩, -, -⟩ := TC.out _ (Below.refl _ _)
  clear hb0 hw0 hb00 hb01 hrc hr hs0 hK hK2 hm hm8
  go_enter Tryz.func10, Tryz.ntmps10
  go_wp2_with fail
  rw [W0.out]
  go_wp2_with fail
  rw [RK.out]
  go_wp2_with fail
  refine (CW.out _ RR.out).mono ?_
  rintro e w1 ⟨av, tv, rs, rfl, hT, hmap, hF, hb1⟩
  obtain ⟨ao, acap, hva, -⟩ := hT.1.split
  obtain ⟨to, tcap, hvt, -⟩ := RdR.split hT.2
  simp only at hva hvt
  rw [nameN_length (show K ≤ 8 by omega)] at hva
  subst hva hvt
  have GG := hid (GOOD.out rs hmap)
  obtain ⟨-, ⟨z0, z1, z2⟩, zf⟩ := TC.out _ hb1
  have zf0 := zf 0
  have zf1 := zf 1
  have zf2 := zf 2
  have HB1 := hid hb1
  have HT := hid hT
  have HF := hid hF
  clear zf hT hmap hF hb1 GOOD q0 q1 q2
  go_wp2_with fail
  obtain ⟨wf, hwf⟩ : ∃ wf : World, ((w1.setCell ⟨w.heap.size + 1, 0, none⟩ (.string (ByteArray.mk #[114]))).setCell ⟨w.heap.size + 1, 1, none⟩ (.slice ao K acap)).setCell ⟨w.heap.size + 1, 2, none⟩ (.slice to rs.length tcap) = wf := ⟨_, rfl⟩
  obtain ⟨r0, r1, r2⟩ := set3w z0 z1 z2 hwf
  have f3 := HF.out (w.heap.size + 1) (by have := HS0.out; omega)
  have QT : RdT wf (.slice ao K acap) (.slice to rs.length tcap) (ByteArray.mk #[114], nameN K, rs) := by rw [← hwf]; exact RdT.set3 HT.out f3.1 f3.2.1 f3.2.2
  have QB : Below w.heap.size w wf := by rw [← hwf]; exact below_set3 (B0.out.trans (HB1.out.mono (by have := HS0.out; omega))) (by omega)
  rw [hwf]
  exact bodyPost_ret (v := .tuple #[.agg #[.string (ByteArray.mk #[114]), .slice ao K acap, .slice to rs.length tcap], .bool true]) (by simp [results, Tryz.results10, go_sem, r0, r1, r2]) rfl ⟨.slice ao K acap, .slice to rs.length tcap, (ByteArray.mk #[114], nameN K, rs), rfl, QT, GG.out.1, GG.out.2.1, GG.out.2.2, fun j hj => HF.out j (by have := HS0.out; omega), QB⟩

set_option maxHeartbeats 1600000 in
theorem table_big (a g : U8) (rr : List RcR) (rv : Value) (most : Nat) (w : World) (hr : RdRc w rv rr) (hm : most < rr.length) :
    Calls Tryz.prog 10 #[.agg #[.int .u8 (a.toNat : Int), .int .u8 (g.toNat : Int), rv], .int .i64 (most : Int)] w fun e w' => e = .returned (.tuple #[.agg #[.string (ByteArray.mk #[]), .slice none 0 0, .slice none 0 0], .bool false]) ∧ Below w.heap.size w w' := by
  have TC := hid (fun W h => two_cells w (.int .u8 (a.toNat : Int)) (.int .u8 (g.toNat : Int)) rv 53 48 W h)
  generalize (a.toNat : Int) = ai at *
  generalize (g.toNat : Int) = gi at *
  have hb00 := below_alloc w (.cells #[.int .u8 ai, .int .u8 gi, rv] 53)
  have hb01 := below_alloc (w.alloc (.cells #[.int .u8 ai, .int .u8 gi, rv] 53)) (.cells #[.string (ByteArray.mk #[]), .slice none 0 0, .slice none 0 0] 48)
  have hb0 := hb00.trans (hb01.mono hb00.size)
  have RR := hid (hr.below hb0)
  obtain ⟨w0, hw0⟩ : ∃ w0 : World, (w.alloc (.cells #[.int .u8 ai, .int .u8 gi, rv] 53)).alloc (.cells #[.string (ByteArray.mk #[]), .slice none 0 0, .slice none 0 0] 48) = w0 := ⟨_, rfl⟩
  rw [hw0] at hb0 RR TC
  have B0 := hid hb0
  have W0 := hid hw0
  obtain ⟨ro, rcap, hv, hrl, hrc⟩ := RR.out.split
  subst hv
  have hlm : ((rr.length : Int) > (most : Int)) := by omega
  obtain ⟨⟨q0, q1, q2⟩, ⟨z0, z1, z2⟩, zf⟩ := TC.out _ (Below.refl _ _)
  have zf0 := zf 0
  have zf1 := zf 1
  have zf2 := zf 2
  clear hb0 hw0 hb00 hb01 hrc hr hm zf
  go_enter Tryz.func10, Tryz.ntmps10
  go_wp2_with fail
  rw [W0.out]
  go_wp2_with fail
  exact bodyPost_ret (v := .tuple #[.agg #[.string (ByteArray.mk #[]), .slice none 0 0, .slice none 0 0], .bool false]) (by simp [results, Tryz.results10, go_sem, z0, z1, z2]) rfl ⟨rfl, B0.out⟩

end Go.Proofs.YtgahpgmagfngfaaGreatDoor


/- The law AgreeLarge. -/
namespace Go.Proofs.YtgahpgmagfngfaaGreatDoor
open Go.RowKit
set_option linter.unusedVariables false

def numV (n : Int) : V3 := (1, n, ByteArray.mk #[])
theorem numV_ok (n : Int) : badV (numV n) = false := by
  unfold badV validV numV
  rw [ByteArray.toList_eq]
  rfl
theorem rowsE_inc (m : Nat) : ∀ (rs : List Row3) (k : Nat) (last : Int), (∀ (j : Nat) (r : Row3), rs[j]? = some r → r.1 = (k : Int) + j + 1 ∧ r.2.2.length = m ∧ r.2.2.any badV = false) → last < (k : Int) + 1 → rowsE last m rs = 0 := by
  intro rs
  induction rs with
  | nil => intro k last _ _; rfl
  | cons r rs ih =>
    intro k last h hl
    obtain ⟨h1, h2, h3⟩ := h 0 r rfl
    unfold rowsE
    rw [if_neg (by rw [h1]; simp; omega), if_neg (by rw [h2]; simp), if_neg (by rw [h3]; simp)]
    refine ih (k + 1) r.1 (fun j r' hr' => ?_) (by rw [h1]; simp; omega)
    obtain ⟨a, b, c⟩ := h (j + 1) r' (by simpa using hr')
    exact ⟨by rw [a]; simp; omega, b, c⟩
theorem step_pushB {α : Type} {P : Program} {w : World} {ops : Array Oper} {o : Oper} {a : Act} {K : Act → World → Prop} {Q : Exit → Act → World → Prop} {E : Prop} (hgd : o.guard = none) (s x : Operand) (t : TypeId)
    (ho : o.op = .call { callee := .builtin .append, args := #[s, x], argTypes := #[t, t] })
    (B : Nat) (e : TypeId) (z : Value) (n bytes : Nat) (ht : P.underlying t = some (.slice e)) (hinfo : (P.info? e).map (fun i => (i.zero, i.size, i.bytes)) = some (some z, n, bytes)) (hz : z.cells.size = n) (hn : 0 < n) (hb8 : bytes ≤ 64)
    (c : α → List Value) (hc : ∀ y, (c y).length = n) (v : Value) (xs : List α) (hs : a.eval s = v) (hown : w.ownsRow B e n v xs.length (xs.flatMap c))
    (ad : Addr) (y : α) (hf : ∀ u ∈ c y, u.oneCell' = true) (hx : a.eval x = .slice (some ad) 1 1) (hy : ∀ j u, (c y)[j]? = some u → w.cell? (ad.add j) = some u) (hl : xs.length < 2199023255552) (hB : B ≤ w.heap.size)
    (h : ∀ v' w', w'.ownsRow B e n v' (xs ++ [y]).length ((xs ++ [y]).flatMap c) → w.grownBy w' v.ownBlock → (v'.ownBlock = v.ownBlock ∨ v'.ownBlock = some w.heap.size) → K (a.put o.dst v') w') :
    if Region.wanted o (yielded ops a.tmps) = true then Oper.wp P o a w K Q else E := by
  obtain ⟨i, hi, hz0, hz1, hz2⟩ := info_parts hinfo
  refine step_append_lies w hgd s x t ho B e i z n bytes ht hi hz0 hz1 hz2 hz hn v xs.length (xs.flatMap c) hs hown ad 1 1 (c y) hx (by rw [hc, Nat.one_mul]) hy hf (by omega) ?_ ?_ hB _ rfl ?_
  · unfold maxLen; omega
  · refine Nat.le_trans (Nat.mul_le_mul_left _ hb8) ?_; omega
  · intro g cap w' h1 h2 h3 _
    refine h _ w' ?_ h2 (h3.elim (fun e => .inl e.symm) fun e => .inr (by rw [e]; rfl))
    simpa using h1

end Go.Proofs.YtgahpgmagfngfaaGreatDoor


/- The law AgreeLarge: the walk. -/
namespace Go.Proofs.YtgahpgmagfngfaaGreatDoor
open Go.RowKit
set_option linter.unusedVariables false

attribute [local irreducible] Go.wpQuiet

end Go.Proofs.YtgahpgmagfngfaaGreatDoor

