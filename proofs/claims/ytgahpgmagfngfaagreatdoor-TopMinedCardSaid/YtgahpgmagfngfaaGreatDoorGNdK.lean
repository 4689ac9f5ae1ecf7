/- Texts that belong together, in one file. -/
import Derived.Test.YtgahpgmagfngfaaGreatDoorGNdA
import Derived.Test.YtgahpgmagfngfaaGreatDoorGTab30
import Derived.Test.YtgahpgmagfngfaaGreatDoorGNdG
import Derived.Deep.DeepCutAuto
import Derived.BigRegion
/- Lists of bytes of any length as arguments; the walk of pick over them. -/
namespace Go.Proofs.YtgahpgmagfngfaaGreatDoor
open Go.RowKit
set_option linter.unusedVariables false

/-- A list of bytes that lies in memory. -/
def RdB8 (w : World) (v : Value) (l : List U8) : Prop :=
  ∃ ao cap, v = .slice ao l.length cap ∧ l.length ≤ 140737488355328 ∧ ∀ (k : Nat) (x : U8), l[k]? = some x → ∃ b off, ao = some ⟨b, off, none⟩ ∧ b < w.heap.size ∧ w.cell? ⟨b, off + k, none⟩ = some (enc8 x)
theorem RdB8.below {w w' : World} {v : Value} {l : List U8} (h : RdB8 w v l) (hb : Below w.heap.size w w') : RdB8 w' v l := by
  obtain ⟨ao, cap, rfl, h2, h3⟩ := h
  refine ⟨ao, cap, rfl, h2, fun k x hx => ?_⟩
  obtain ⟨b, off, e, hlt, hc⟩ := h3 k x hx
  exact ⟨b, off, e, Nat.lt_of_lt_of_le hlt hb.size, (hb.cell (p := ⟨b, off + k, none⟩) hlt).trans hc⟩
theorem RdB8.split {w : World} {v : Value} {l : List U8} (h : RdB8 w v l) : ∃ ao cap, v = .slice ao l.length cap ∧ l.length ≤ 140737488355328 ∧
    ∀ (k : Nat) (x : U8), l[k]? = some x → ∃ b off, ao = some ⟨b, off, none⟩ ∧ ∀ wr, Below w.heap.size w wr → wr.cell? ⟨b, off + k, none⟩ = some (enc8 x) := by
  obtain ⟨ao, cap, rfl, h2, h3⟩ := h
  refine ⟨ao, cap, rfl, h2, fun k x hx => ?_⟩
  obtain ⟨b, off, rfl, hlt, hc⟩ := h3 k x hx
  exact ⟨b, off, rfl, fun wr hn => (hn.cell (p := ⟨b, off + k, none⟩) hlt).trans hc⟩
theorem RdB8.of_row {w : World} {r : RcR} (h : RdU w r) : ∃ l : List U8, RdB8 w r.1 l := by
  obtain ⟨ao, cap, h1, h2, h3⟩ := h
  refine ⟨(List.range r.2.1).map r.2.2, ao, cap, by rw [h1]; simp, by simpa using h2, fun k x hx => ?_⟩
  have hk : k < r.2.1 := by have := (List.getElem?_eq_some_iff.1 hx).1; simpa using this
  obtain ⟨b, off, e, hlt, hc⟩ := h3 k hk
  refine ⟨b, off, e, hlt, ?_⟩
  rw [List.getElem?_map, List.getElem?_range hk] at hx
  simp at hx
  rw [← hx]; exact hc

set_option maxHeartbeats 1600000 in
theorem pickB_any (l : List U8) (v : Value) (n : Nat) (w : World) (hv : RdB8 w v l) (hn : n ≤ 3) :
    Calls Tryz.prog 20 #[v, .int .i64 (n : Int)] w (PickQ n w) := by
  obtain ⟨ao, cap, rfl, hl, hc⟩ := hv.split
  have HC := hid hc
  unfold enc8 at HC
  clear hc hv
  have HN3 := hid hn
  have n3 : (n : Int) ≤ 3 := by omega
  have n0 : (0 : Int) ≤ (n : Int) := by omega
  clear hn
  go_enter Tryz.func20, Tryz.ntmps20
  go_wp2_with fail
  go_loopw [5, 6] (fun u i wr => ∃ (j : Nat) (out : List Nat), j ≤ l.length ∧ i = .int .i64 j ∧ wr.ownsRow w.heap.size 3 1 u out.length (out.map encI) ∧ Hid (out.Nodup ∧ ∀ a ∈ out, a < n) ∧ Below w.heap.size w wr) (fun _ i _ => l.length - (intOf i).toNat)
  case atStart => exact ⟨0, [], Nat.zero_le _, rfl, World.ownsRow_nil _ _ _ _, hid ⟨List.nodup_nil, by simp⟩, Below.refl _ _⟩
  case round =>
    obtain ⟨j, out, hj, rfl, hown, H, hnx⟩ := hrel
    have hsz := hnx.size
    have NX := hid hnx
    have HO := hid hown
    have j0 : (0 : Int) ≤ (j : Int) := by omega
    have OL := hid (show out.length ≤ 3 from Nat.le_trans (nodup_bound n out H.out.1 H.out.2) HN3.out)
    by_cases hlt : j < l.length
    · by_cases hz : 0 < n
      · have hzI : decide ((n : Int) > 0) = true := by simp; omega
        have hz1 : (n : Int) > 0 := by omega
        have hz2 : ¬ (n : Int) = 0 := by omega
        obtain ⟨x, hx⟩ := get_some hlt
        obtain ⟨b, off, rfl, hd⟩ := HC.out j x hx
        have e0 := hd wr hnx
        obtain ⟨K, hK⟩ : ∃ K, x.toNat % n = K := ⟨_, rfl⟩
        have KN := hid (show K < n by rw [← hK]; exact Nat.mod_lt _ hz)
        have x0 : (0 : Int) ≤ (x.toNat : Int) := by omega
        have x255 : (x.toNat : Int) ≤ 255 := by have := x.isLt; omega
        have q1 : ((x.toNat : Nat) : Int) % (n : Int) = (K : Int) := by rw [← hK]; exact (Int.natCast_emod _ _).symm
        have q2 : ((x.toNat : Nat) : Int).tmod (n : Int) = (K : Int) := by rw [← hK]; exact Int.ofNat_tmod _ _
        obtain ⟨xi, hxi⟩ : ∃ xi : Int, (x.toNat : Int) = xi := ⟨_, rfl⟩
        rw [hxi] at q1 q2 e0 x0 x255
        have RD := hid (RdE.of_owns hown (by have := OL.out; omega))
        have A1 := hid (at15_any out u5 K wr RD.out)
        have hlI : (j : Int) < (l.length : Int) := by omega
        clear hd hx hnx hK hxi hown
        obtain ⟨oo, ocap, hu, -⟩ := RD.out.split
        subst hu
        go_wp2_with fail
        refine A1.out.mono ?_
        rintro e w2 ⟨⟨hin, rfl⟩ | ⟨hin, p, rfl⟩, hb2⟩
        · have HO2 := hid (own_below HO.out hb2)
          have NX2 := hid (NX.out.trans (hb2.mono hsz))
          have hsz2 := NX2.out.size
          have ND := hid (show (out ++ [K]).Nodup ∧ ∀ a ∈ out ++ [K], a < n from ⟨by
            rw [List.nodup_append]
            refine ⟨H.out.1, by simp, fun a ha c hc => ?_⟩
            rw [List.mem_singleton] at hc; subst hc
            exact fun e => hin (e ▸ ha), fun a ha => by
            rcases List.mem_append.1 ha with h | h
            · exact H.out.2 a h
            · rw [List.mem_singleton] at h; rw [h]; exact KN.out⟩)
          clear hb2 hin
          go_wp2_with (at_builtin; refine wpList_push rfl _ _ 37 rfl w.heap.size 3 (.int .i64 0) 8 undInts infoInt rfl (by decide) encI (fun _ => rfl) _ out rfl (HO2.out.alloc _) ⟨w2.heap.size, 0, none⟩ K rfl cell_new (by have := OL.out; omega) (by simp; omega) ?_)
          intro v' w4 hown' hgrow
          have hb4 := hid (below_push NX2.out hsz2 HO2.out hgrow)
          have OW := hid (show w4.ownsRow w.heap.size 3 1 v' (out ++ [K]).length ((out ++ [K]).map encI) by simpa using hown')
          clear hown' hgrow
          go_wp2_with fail
          go_roundw
          case rel => exact ⟨j + 1, out ++ [K], by omega, by go_num, OW.out, ND, hb4.out⟩
          case measure => simp [intOf]; omega
        · have HO2 := hid (own_below HO.out hb2)
          have NX2 := hid (NX.out.trans (hb2.mono hsz))
          have p0 : ((p : Int) < 0) = False := by simp
          have p1 : decide ((p : Int) < 0) = false := by simp
          clear hb2 hin
          go_wp2_with fail
          go_roundw
          case rel => exact ⟨j + 1, out, by omega, by go_num, HO2.out, H, NX2.out⟩
          case measure => simp [intOf]; omega
      · have hzI : decide ((n : Int) > 0) = false := by simp; omega
        have hlI : (j : Int) < (l.length : Int) := by omega
        clear hnx hown
        go_wp2_with fail
        go_ret
        exact ⟨_, out, rfl, HO.out, H.out.1, H.out.2, NX.out⟩
    · have hlI : ¬ (j : Int) < (l.length : Int) := by omega
      clear hnx hown
      go_wp2_with fail
      go_ret
      exact ⟨_, out, rfl, HO.out, H.out.1, H.out.2, NX.out⟩

end Go.Proofs.YtgahpgmagfngfaaGreatDoor


/- The walk of drossref15.IND. -/
namespace Go.Proofs.YtgahpgmagfngfaaGreatDoor
open Go.RowKit
set_option linter.unusedVariables false

/-- What IND gives. -/
def IndQ (ds : List D3) (w : World) (e : Ending) (w' : World) : Prop :=
  ∃ (g : DN) (lo : Option Addr) (ln lc : Nat) (ro : Option Addr) (rn rc : Nat), e = .returned (.agg #[.string (nmT g.1), .slice lo ln lc, .string (nmT g.2.1), .slice ro rn rc]) ∧ VI ds.length (nD ds) g ∧ RdE encI w' (.slice lo ln lc) g.2.2.1 ∧ RdE encI w' (.slice ro rn rc) g.2.2.2 ∧ Below w.heap.size w w'
/-- The two tables in their boxes. -/
structure TwoT (w0 : World) (q1 q2 : Nat) (a0 a1 a2 b0 b1 b2 : Value) (wx : World) : Prop where
  x0 : wx.cell? ⟨q1, 0, none⟩ = some a0
  x1 : wx.cell? ⟨q1, 1, none⟩ = some a1
  x2 : wx.cell? ⟨q1, 2, none⟩ = some a2
  y0 : wx.cell? ⟨q2, 0, none⟩ = some b0
  y1 : wx.cell? ⟨q2, 1, none⟩ = some b1
  y2 : wx.cell? ⟨q2, 2, none⟩ = some b2
  below : Below w0.heap.size w0 wx
theorem TwoT.mk1 {w0 : World} {a0 a1 a2 b0 b1 b2 : Value} {t : TypeId} : TwoT w0 w0.heap.size (w0.heap.size + 1) a0 a1 a2 b0 b1 b2 (((w0.alloc (.cells #[a0, a1, a2] t)).alloc (.cells #[b0, b1, b2] t)).drew) := by
  have s1 : (w0.alloc (.cells #[a0, a1, a2] t)).heap.size = w0.heap.size + 1 := by simp
  have h2 := below_alloc (w0.alloc (.cells #[a0, a1, a2] t)) (.cells #[b0, b1, b2] t)
  obtain ⟨x0, x1, x2⟩ := cells3 (w := w0) (a := a0) (b := a1) (c := a2) (t := t) _ h2
  obtain ⟨y0, y1, y2⟩ := cells3 (w := w0.alloc (.cells #[a0, a1, a2] t)) (a := b0) (b := b1) (c := b2) (t := t) _ (Below.refl _ _)
  rw [s1] at y0 y1 y2
  exact ⟨x0, x1, x2, y0, y1, y2, ((below_alloc w0 _).trans (h2.mono (below_alloc w0 _).size)).drew⟩
theorem TwoT.swap {w0 : World} {q1 q2 : Nat} {a0 a1 a2 b0 b1 b2 : Value} {wx : World} (h : TwoT w0 q1 q2 a0 a1 a2 b0 b1 b2 wx) : TwoT w0 q2 q1 b0 b1 b2 a0 a1 a2 wx := ⟨h.y0, h.y1, h.y2, h.x0, h.x1, h.x2, h.below⟩
theorem TwoT.later {w0 : World} {q1 q2 : Nat} {a0 a1 a2 b0 b1 b2 : Value} {wx wy : World} (h : TwoT w0 q1 q2 a0 a1 a2 b0 b1 b2 wx) (hb : Below wx.heap.size wx wy) : TwoT w0 q1 q2 a0 a1 a2 b0 b1 b2 wy := by
  have l1 := World.block_lt_of_cell? _ _ h.x0
  have l2 := World.block_lt_of_cell? _ _ h.y0
  exact ⟨(hb.cell (p := ⟨q1, 0, none⟩) l1).trans h.x0, (hb.cell (p := ⟨q1, 1, none⟩) l1).trans h.x1, (hb.cell (p := ⟨q1, 2, none⟩) l1).trans h.x2, (hb.cell (p := ⟨q2, 0, none⟩) l2).trans h.y0, (hb.cell (p := ⟨q2, 1, none⟩) l2).trans h.y1, (hb.cell (p := ⟨q2, 2, none⟩) l2).trans h.y2, h.below.trans (hb.mono h.below.size)⟩
/-- The two picks. -/
structure Pk2 (N1 N2 : Nat) (wc : World) (v1 v2 : Value) (l r : List Nat) (wx : World) : Prop where
  r1 : RdE encI wx v1 l
  r2 : RdE encI wx v2 r
  d1 : l.Nodup
  d2 : r.Nodup
  b1 : ∀ a ∈ l, a < N1
  b2 : ∀ a ∈ r, a < N2
  f1 : ∀ j, j < wc.heap.size → FarV v1 (some j)
  f2 : ∀ j, j < wc.heap.size → FarV v2 (some j)
  below : Below wc.heap.size wc wx
theorem Pk2.mk1 {N1 N2 B1 B2 : Nat} {wc wa wb : World} {v1 v2 : Value} {l r : List Nat} (h1 : wa.ownsRow B1 3 1 v1 l.length (l.map encI)) (d1 : l.Nodup) (b1 : ∀ a ∈ l, a < N1) (hb1 : Below wc.heap.size wc wa) (h2 : wb.ownsRow B2 3 1 v2 r.length (r.map encI)) (d2 : r.Nodup) (b2 : ∀ a ∈ r, a < N2) (hb2 : Below wa.heap.size wa wb) (hN1 : N1 ≤ 3) (hN2 : N2 ≤ 3) (hB1 : wc.heap.size ≤ B1) (hB2 : wc.heap.size ≤ B2) : Pk2 N1 N2 wc v1 v2 l r wb := by
  have l1 := nodup_bound N1 l d1 b1
  have l2 := nodup_bound N2 r d2 b2
  exact ⟨(RdE.of_owns h1 (by omega)).below hb2, RdE.of_owns h2 (by omega), d1, d2, b1, b2, fun j hj => far_lo h1 (Nat.lt_of_lt_of_le hj hB1), fun j hj => far_lo h2 (Nat.lt_of_lt_of_le hj hB2), hb1.trans (hb2.mono hb1.size)⟩
theorem Pk2.mk2 {N1 N2 B1 B2 : Nat} {wc wa wb : World} {v1 v2 : Value} {l r : List Nat} (h1 : wa.ownsRow B1 3 1 v2 r.length (r.map encI)) (d1 : r.Nodup) (b1 : ∀ a ∈ r, a < N2) (hb1 : Below wc.heap.size wc wa) (h2 : wb.ownsRow B2 3 1 v1 l.length (l.map encI)) (d2 : l.Nodup) (b2 : ∀ a ∈ l, a < N1) (hb2 : Below wa.heap.size wa wb) (hN1 : N1 ≤ 3) (hN2 : N2 ≤ 3) (hB1 : wc.heap.size ≤ B1) (hB2 : wc.heap.size ≤ B2) : Pk2 N1 N2 wc v1 v2 l r wb := by
  have h := Pk2.mk1 h1 d1 b1 hb1 h2 d2 b2 hb2 hN2 hN1 hB1 hB2
  exact ⟨h.r2, h.r1, h.d2, h.d1, h.b2, h.b1, h.f2, h.f1, h.below⟩
theorem set4I {W : World} {b : Nat} {x0 x1 x2 x3 y0 y1 y2 y3 : Value} (h0 : W.cell? ⟨b, 0, none⟩ = some x0) (h1 : W.cell? ⟨b, 1, none⟩ = some x1) (h2 : W.cell? ⟨b, 2, none⟩ = some x2) (h3 : W.cell? ⟨b, 3, none⟩ = some x3) {W4 : World}
    (hW : (((W.setCell ⟨b, 0, none⟩ y0).setCell ⟨b, 1, none⟩ y1).setCell ⟨b, 2, none⟩ y2).setCell ⟨b, 3, none⟩ y3 = W4) :
    W4.cell? ⟨b, 0, none⟩ = some y0 ∧ W4.cell? ⟨b, 1, none⟩ = some y1 ∧ W4.cell? ⟨b, 2, none⟩ = some y2 ∧ W4.cell? ⟨b, 3, none⟩ = some y3 := by
  subst hW
  have o : ∀ (V : World) (i j : Nat) (y : Value), i ≠ j → (V.setCell ⟨b, j, none⟩ y).cell? ⟨b, i, none⟩ = V.cell? ⟨b, i, none⟩ := fun V i j y hij => World.cell?_setCell_other _ _ _ _ (by simp)
  have sm : ∀ (V : World) (i : Nat) (x y : Value), V.cell? ⟨b, i, none⟩ = some x → (V.setCell ⟨b, i, none⟩ y).cell? ⟨b, i, none⟩ = some y := fun V i x y h => World.cell?_setCell_same _ _ _ h
  refine ⟨?_, ?_, ?_, ?_⟩
  · rw [o _ 0 3 _ (by decide), o _ 0 2 _ (by decide), o _ 0 1 _ (by decide)]; exact sm _ _ _ _ h0
  · rw [o _ 1 3 _ (by decide), o _ 1 2 _ (by decide)]; exact sm _ _ _ _ ((o _ 1 0 _ (by decide)).trans h1)
  · rw [o _ 2 3 _ (by decide)]; exact sm _ _ _ _ ((o _ 2 1 _ (by decide)).trans ((o _ 2 0 _ (by decide)).trans h2))
  · exact sm _ _ _ _ ((o _ 3 2 _ (by decide)).trans ((o _ 3 1 _ (by decide)).trans ((o _ 3 0 _ (by decide)).trans h3)))
theorem RdE.set4 {W : World} {b : Nat} {y0 y1 y2 y3 v : Value} {xs : List Nat} (h : RdE encI W v xs) (f : FarV v (some b)) : RdE encI ((((W.setCell ⟨b, 0, none⟩ y0).setCell ⟨b, 1, none⟩ y1).setCell ⟨b, 2, none⟩ y2).setCell ⟨b, 3, none⟩ y3) v xs :=
  RdE.setFar (p := ⟨b, 3, none⟩) (RdE.setFar (p := ⟨b, 2, none⟩) (RdE.setFar (p := ⟨b, 1, none⟩) (RdE.setFar (p := ⟨b, 0, none⟩) h f) f) f) f
theorem below_set4 {B : Nat} {w W : World} {b : Nat} {y0 y1 y2 y3 : Value} (h : Below B w W) (hb : B ≤ b) : Below B w ((((W.setCell ⟨b, 0, none⟩ y0).setCell ⟨b, 1, none⟩ y1).setCell ⟨b, 2, none⟩ y2).setCell ⟨b, 3, none⟩ y3) :=
  (((h.setCell (p := ⟨b, 0, none⟩) hb y0).setCell (p := ⟨b, 1, none⟩) hb y1).setCell (p := ⟨b, 2, none⟩) hb y2).setCell (p := ⟨b, 3, none⟩) hb y3
theorem far_cut {ao : Option Addr} {n k cap : Nat} {o : Option Nat} (h : FarV (.slice ao n cap) o) (hk : k ≤ n) : FarV (.slice ao k cap) o := by
  intro a len cap' e hp e2
  simp only [Value.slice.injEq] at e
  obtain ⟨ea, el, ec⟩ := e
  subst ea
  exact h a n cap rfl (by omega) e2
theorem tmodK (x l : Nat) : (x : Int).tmod (l : Int) = ((x % l : Nat) : Int) := by rw [Int.tmod_eq_emod_of_nonneg (by omega)]; rfl
theorem boxK (w : World) (v a b c d : Value) (W : World) (h : Below (((w.alloc (.cells #[v] 29)).alloc (.cells #[a, b, c, d] 26)).alloc (.cells #[.string (ByteArray.mk #[]), .slice none 0 0, .string (ByteArray.mk #[]), .slice none 0 0] 39)).heap.size (((w.alloc (.cells #[v] 29)).alloc (.cells #[a, b, c, d] 26)).alloc (.cells #[.string (ByteArray.mk #[]), .slice none 0 0, .string (ByteArray.mk #[]), .slice none 0 0] 39)) W) :
    (W.cell? ⟨w.heap.size, 0, none⟩ = some v ∧ W.cell? ⟨w.heap.size + 1, 0, none⟩ = some a ∧ W.cell? ⟨w.heap.size + 1, 1, none⟩ = some b ∧ W.cell? ⟨w.heap.size + 1, 2, none⟩ = some c ∧ W.cell? ⟨w.heap.size + 1, 3, none⟩ = some d) ∧
    (W.cell? ⟨w.heap.size + 1 + 1, 0, none⟩ = some (.string (ByteArray.mk #[])) ∧ W.cell? ⟨w.heap.size + 1 + 1, 1, none⟩ = some (.slice none 0 0) ∧ W.cell? ⟨w.heap.size + 1 + 1, 2, none⟩ = some (.string (ByteArray.mk #[])) ∧ W.cell? ⟨w.heap.size + 1 + 1, 3, none⟩ = some (.slice none 0 0)) ∧
    ∀ j, W.frozen? ⟨w.heap.size + 1 + 1, j, none⟩ = false := by
  have s1 : (w.alloc (.cells #[v] 29)).heap.size = w.heap.size + 1 := by simp
  have s2 : ((w.alloc (.cells #[v] 29)).alloc (.cells #[a, b, c, d] 26)).heap.size = w.heap.size + 1 + 1 := by simp
  have b3 := below_alloc ((w.alloc (.cells #[v] 29)).alloc (.cells #[a, b, c, d] 26)) (.cells #[.string (ByteArray.mk #[]), .slice none 0 0, .string (ByteArray.mk #[]), .slice none 0 0] 39)
  have b2 := below_alloc (w.alloc (.cells #[v] 29)) (.cells #[a, b, c, d] 26)
  have h2 := b3.trans (h.mono b3.size)
  have h1 := b2.trans (h2.mono b2.size)
  have x0 := (h1.cell (p := ⟨w.heap.size, 0, none⟩) (by simp)).trans (cell_new (w := w) (v := v))
  obtain ⟨y0, y1, y2, y3⟩ := cells4I W h2
  obtain ⟨z0, z1, z2, z3⟩ := cells4I W h
  rw [s1] at y0 y1 y2 y3
  rw [s2] at z0 z1 z2 z3
  refine ⟨⟨x0, y0, y1, y2, y3⟩, ⟨z0, z1, z2, z3⟩, fun j => ?_⟩
  refine (h.frozen (p := ⟨w.heap.size + 1 + 1, j, none⟩) (by simp)).trans ?_
  have h9 := World.frozen?_alloc_new ((w.alloc (.cells #[v] 29)).alloc (.cells #[a, b, c, d] 26)) #[.string (ByteArray.mk #[]), .slice none 0 0, .string (ByteArray.mk #[]), .slice none 0 0] 39 j
  rw [s2] at h9
  exact h9

set_option maxHeartbeats 6400000 in
set_option maxRecDepth 100000 in
theorem ind15_any (ds : List D3) (v : Value) (f t : U8) (ll rr : List U8) (lv rv : Value) (w : World) (hv : RdDb w v ds) (hg : GoodD ds) (h0 : 0 < ds.length) (hl : RdB8 w lv ll) (hr : RdB8 w rv rr) :
    Calls Tryz.prog 8 #[.agg #[v], .agg #[.int .u8 (f.toNat : Int), .int .u8 (t.toNat : Int), lv, rv]] w (IndQ ds w) := by
  obtain ⟨ao, cap, rfl, -⟩ := hv.split
  obtain ⟨lo, lcap, rfl, -⟩ := hl.split
  obtain ⟨ro, rcap, rfl, -⟩ := hr.split
  obtain ⟨fi, hfi⟩ : ∃ fi, f.toNat % ds.length = fi := ⟨_, rfl⟩
  obtain ⟨ti, hti⟩ : ∃ ti, t.toNat % ds.length = ti := ⟨_, rfl⟩
  have fl : fi < ds.length := by rw [← hfi]; exact Nat.mod_lt _ h0
  have tl : ti < ds.length := by rw [← hti]; exact Nat.mod_lt _ h0
  have TF : ((f.toNat : Int)).tmod (ds.length : Int) = (fi : Int) := by rw [tmodK, hfi]
  have TT : ((t.toNat : Int)).tmod (ds.length : Int) = (ti : Int) := by rw [tmodK, hti]
  have f9 : (f.toNat : Int) < 256 := by have := f.isLt; omega
  have t9 : (t.toNat : Int) < 256 := by have := t.isLt; omega
  have f0 : (0 : Int) ≤ (f.toNat : Int) := by omega
  have t0 : (0 : Int) ≤ (t.toNat : Int) := by omega
  have f6 : f.toNat < 256 := f.isLt
  have t6 : t.toNat < 256 := t.isLt
  generalize f.toNat = fn at *
  generalize t.toNat = tn at *
  have WF : IntKind.i64.wrap (fn : Int) = (fn : Int) := by rw [IntKind.wrap_i64]; omega
  have WT : IntKind.i64.wrap (tn : Int) = (tn : Int) := by rw [IntKind.wrap_i64]; omega
  have fl1 : (fi : Int) < (ds.length : Int) := by omega
  have tl1 : (ti : Int) < (ds.length : Int) := by omega
  have fl0 : (0 : Int) ≤ (fi : Int) := by omega
  have tl0 : (0 : Int) ≤ (ti : Int) := by omega
  have dn0 : ((ds.length : Int) == 0) = false := by rw [beq_eq_false_iff_ne]; omega
  have dn1 : ¬ (ds.length : Int) = 0 := by omega
  have dn2 : ¬ ds.length = 0 := by omega
  have d3 : (ds.length : Int) ≤ 3 := by have := hg.few; omega
  have hb0 := ((below_alloc w (.cells #[.slice ao ds.length cap] 29)).trans ((below_alloc (w.alloc (.cells #[.slice ao ds.length cap] 29)) (.cells #[.int .u8 (fn : Int), .int .u8 (tn : Int), .slice lo ll.length lcap, .slice ro rr.length rcap] 26)).mono (by simp))).trans ((below_alloc ((w.alloc (.cells #[.slice ao ds.length cap] 29)).alloc (.cells #[.int .u8 (fn : Int), .int .u8 (tn : Int), .slice lo ll.length lcap, .slice ro rr.length rcap] 26)) (.cells #[.string (ByteArray.mk #[]), .slice none 0 0, .string (ByteArray.mk #[]), .slice none 0 0] 39)).mono (by simp; omega))
  have BX := hid (boxK w (.slice ao ds.length cap) (.int .u8 (fn : Int)) (.int .u8 (tn : Int)) (.slice lo ll.length lcap) (.slice ro rr.length rcap))
  obtain ⟨w0, hw0⟩ : ∃ w0 : World, (((w.alloc (.cells #[.slice ao ds.length cap] 29)).alloc (.cells #[.int .u8 (fn : Int), .int .u8 (tn : Int), .slice lo ll.length lcap, .slice ro rr.length rcap] 26)).alloc (.cells #[.string (ByteArray.mk #[]), .slice none 0 0, .string (ByteArray.mk #[]), .slice none 0 0] 39)) = w0 := ⟨_, rfl⟩
  have hs0 : w0.heap.size = w.heap.size + 1 + 1 + 1 := by rw [← hw0]; simp
  rw [hw0] at hb0 BX
  have W0 := hid hw0
  have B0 := hid hb0
  have HS0 := hid hs0
  have V0 := hid (hv.below hb0)
  have L0 := hid (hl.below hb0)
  have R0 := hid (hr.below hb0)
  obtain ⟨ao', cap', he, -, hc⟩ := V0.out.split
  simp only [Value.slice.injEq, true_and] at he
  obtain ⟨rfl, rfl⟩ := he
  obtain ⟨df, hdf⟩ := get_some fl
  obtain ⟨dt, hdt⟩ := get_some tl
  obtain ⟨⟨b, off, rfl, hcf⟩, hTf⟩ := hc fi df hdf
  obtain ⟨⟨b2, off2, hbe, hct⟩, hTt⟩ := hc ti dt hdt
  simp only [Option.some.injEq, Addr.mk.injEq] at hbe
  obtain ⟨rfl, rfl, -⟩ := hbe
  have CF := hid hcf
  have CT := hid hct
  have nf := hg.name _ _ hdf
  have nt := hg.name _ _ hdt
  have NF := hid (nD_at hdf)
  have NT := hid (nD_at hdt)
  have AF := hid (hg.att _ (List.mem_of_getElem? hdf))
  have AT := hid (hg.att _ (List.mem_of_getElem? hdt))
  have TFR := hid (hTf w0 (Below.refl _ _))
  have TTR := hid (hTt w0 (Below.refl _ _))
  obtain ⟨avf, rvf, nmf, atf, rsf⟩ := df
  obtain ⟨avt, rvt, nmt, att, rst⟩ := dt
  obtain ⟨aof, acf, haf, -⟩ := TFR.out.1.split
  obtain ⟨aot, act, hat, -⟩ := TTR.out.1.split
  obtain ⟨rof, rcf, hrf, -⟩ := RdR.split TFR.out.2
  obtain ⟨rot, rct, hrt, -⟩ := RdR.split TTR.out.2
  simp only at haf hat hrf hrt nf nt
  subst haf hat hrf hrt nf nt
  obtain ⟨c0, c1, c2⟩ := hcf w0 (Below.refl _ _)
  obtain ⟨e0, e1, e2⟩ := hct w0 (Below.refl _ _)
  obtain ⟨⟨x0, x1, x2, x3, x4⟩, -, -⟩ := BX.out w0 (Below.refl _ _)
  have FLT := hid fl
  have TLT := hid tl
  clear hv hl hr hg hb0 hw0 hs0 hc hdf hdt hcf hTf hct hTt hfi hti
  go_enter Tryz.func8, Tryz.ntmps8
  have B2 := fun (o o' : Obj) => (below_alloc w0 o).trans ((below_alloc (w0.alloc o) o').mono (below_alloc w0 o).size)
  have kf0 := fun o => (CF.out _ (below_alloc w0 o)).1
  have lf0 := fun o o' => (CF.out _ (B2 o o')).1
  have kf1 := fun o => (CF.out _ (below_alloc w0 o)).2.1
  have lf1 := fun o o' => (CF.out _ (B2 o o')).2.1
  have kf2 := fun o => (CF.out _ (below_alloc w0 o)).2.2
  have lf2 := fun o o' => (CF.out _ (B2 o o')).2.2
  have kt0 := fun o => (CT.out _ (below_alloc w0 o)).1
  have lt0 := fun o o' => (CT.out _ (B2 o o')).1
  have kt1 := fun o => (CT.out _ (below_alloc w0 o)).2.1
  have lt1 := fun o o' => (CT.out _ (B2 o o')).2.1
  have kt2 := fun o => (CT.out _ (below_alloc w0 o)).2.2
  have lt2 := fun o o' => (CT.out _ (B2 o o')).2.2
  have kx0 := fun o => (BX.out _ (below_alloc w0 o)).1.1
  have lx0 := fun o o' => (BX.out _ (B2 o o')).1.1
  have kx1 := fun o => (BX.out _ (below_alloc w0 o)).1.2.1
  have lx1 := fun o o' => (BX.out _ (B2 o o')).1.2.1
  have kx2 := fun o => (BX.out _ (below_alloc w0 o)).1.2.2.1
  have lx2 := fun o o' => (BX.out _ (B2 o o')).1.2.2.1
  have HB2 := hid B2
  clear B2
  have HS := hid (fun (W : World) (h : Below w0.heap.size w0 W) => show Below w0.heap.size w0 W ∧ (W.cell? ⟨w.heap.size, 0, none⟩ = some (.slice (some ⟨b, off, none⟩) ds.length cap) ∧ W.cell? ⟨w.heap.size + 1, 0, none⟩ = some (.int .u8 (fn : Int)) ∧ W.cell? ⟨w.heap.size + 1, 1, none⟩ = some (.int .u8 (tn : Int))) ∧ (W.cell? ⟨b, off + fi * 3, none⟩ = some (.string (nmT fi)) ∧ W.cell? ⟨b, off + fi * 3 + 1, none⟩ = some (.slice aof atf.length acf) ∧ W.cell? ⟨b, off + fi * 3 + 2, none⟩ = some (.slice rof rsf.length rcf)) ∧ (W.cell? ⟨b, off + ti * 3, none⟩ = some (.string (nmT ti)) ∧ W.cell? ⟨b, off + ti * 3 + 1, none⟩ = some (.slice aot att.length act) ∧ W.cell? ⟨b, off + ti * 3 + 2, none⟩ = some (.slice rot rst.length rct)) from
    ⟨h, ⟨(BX.out W h).1.1, (BX.out W h).1.2.1, (BX.out W h).1.2.2.1⟩, CF.out W h, CT.out W h⟩)
  go_upto_region 1 with fail
  rw [W0.out]
  go_cut [5, 6] (fun s5 s6 wx => ∃ q1 q2 : Nat, s5 = .pointer (some ⟨q1, 0, none⟩) ∧ s6 = .pointer (some ⟨q2, 0, none⟩) ∧ TwoT w0 q1 q2 (.string (nmT fi)) (.slice aof atf.length acf) (.slice rof rsf.length rcf) (.string (nmT ti)) (.slice aot att.length act) (.slice rot rst.length rct) wx)
  case first =>
    go_region_held3 (fun W => Below w0.heap.size w0 W ∧ (W.cell? ⟨w.heap.size, 0, none⟩ = some (.slice (some ⟨b, off, none⟩) ds.length cap) ∧ W.cell? ⟨w.heap.size + 1, 0, none⟩ = some (.int .u8 (fn : Int)) ∧ W.cell? ⟨w.heap.size + 1, 1, none⟩ = some (.int .u8 (tn : Int))) ∧ (W.cell? ⟨b, off + fi * 3, none⟩ = some (.string (nmT fi)) ∧ W.cell? ⟨b, off + fi * 3 + 1, none⟩ = some (.slice aof atf.length acf) ∧ W.cell? ⟨b, off + fi * 3 + 2, none⟩ = some (.slice rof rsf.length rcf)) ∧ (W.cell? ⟨b, off + ti * 3, none⟩ = some (.string (nmT ti)) ∧ W.cell? ⟨b, off + ti * 3 + 1, none⟩ = some (.slice aot att.length act) ∧ W.cell? ⟨b, off + ti * 3 + 2, none⟩ = some (.slice rot rst.length rct)))
      (first | exact HS.out _ (Below.refl _ _).drew | exact HS.out _ (Below.refl _ _) | exact HS.out _ ((Below.refl w0.heap.size w0).alloc (Nat.le_refl _) _) | exact HS.out _ ((Below.refl w0.heap.size w0).alloc (Nat.le_refl _) _).drew | exact HS.out _ (HB2.out _ _) | exact HS.out _ (HB2.out _ _).drew)
      (first | fail | fail)
    · go_wp2_with fail
      go_meet
      exact ⟨_, _, rfl, rfl, TwoT.mk1⟩
    · go_wp2_with fail
      go_meet
      exact ⟨_, _, rfl, rfl, TwoT.mk1.swap⟩
  case rest =>
    obtain ⟨q1, q2, rfl, rfl, hT⟩ := hcut
    clear kf0 kf1 kf2 lf0 lf1 lf2 kt0 kt1 kt2 lt0 lt1 lt2 kx0 kx1 kx2 lx0 lx1 lx2 c0 c1 c2 e0 e1 e2 x0 x1 x2 x3 x4
    have HT := hid hT
    have TW := hid (fun (W : World) (h : Below wc.heap.size wc W) => And.intro (HT.out.later h) (BX.out W (HT.out.below.trans (h.mono HT.out.below.size))).1)
    have FC := hid (fun (W : World) (h : Below wc.heap.size wc W) => show (W.cell? ⟨q1, 1, none⟩ = some (.slice aof atf.length acf) ∧ W.cell? ⟨q2, 1, none⟩ = some (.slice aot att.length act)) ∧ W.cell? ⟨w.heap.size + 1, 2, none⟩ = some (.slice lo ll.length lcap) ∧ W.cell? ⟨w.heap.size + 1, 3, none⟩ = some (.slice ro rr.length rcap) from
      ⟨⟨(TW.out W h).1.x1, (TW.out W h).1.y1⟩, (TW.out W h).2.2.2.2.1, (TW.out W h).2.2.2.2.2⟩)
    have PL := hid (fun (W : World) (h : Below wc.heap.size wc W) => pickB_any ll (.slice lo ll.length lcap) atf.length W (L0.out.below (HT.out.below.trans (h.mono HT.out.below.size))) AF.out)
    have PR := hid (fun (W : World) (h : Below wc.heap.size wc W) => pickB_any rr (.slice ro rr.length rcap) att.length W (R0.out.below (HT.out.below.trans (h.mono HT.out.below.size))) AT.out)
    obtain ⟨⟨p0, p1⟩, p2, p3⟩ := FC.out wc (Below.refl _ _)
    have NFF : nD ds fi = atf.length := NF.out
    have NTT : nD ds ti = att.length := NT.out
    have NFH := hid NFF
    have NTH := hid NTT
    clear hT NFF NTT
    go_upto_region 2 with fail
    go_cut [7, 8] (fun s7 s8 wx => ∃ (o1 : Option Addr) (k1 : Nat) (o2 : Option Addr) (k2 : Nat) (l r : List Nat), s7 = .slice o1 l.length k1 ∧ s8 = .slice o2 r.length k2 ∧ Pk2 atf.length att.length wc (.slice o1 l.length k1) (.slice o2 r.length k2) l r wx)
    case first =>
      go_region_held3 (fun W => Below wc.heap.size wc W ∧ (W.cell? ⟨q1, 1, none⟩ = some (.slice aof atf.length acf) ∧ W.cell? ⟨q2, 1, none⟩ = some (.slice aot att.length act)) ∧ W.cell? ⟨w.heap.size + 1, 2, none⟩ = some (.slice lo ll.length lcap) ∧ W.cell? ⟨w.heap.size + 1, 3, none⟩ = some (.slice ro rr.length rcap))
        (first | exact ⟨(Below.refl wc.heap.size wc).drew, FC.out _ (Below.refl wc.heap.size wc).drew⟩ | exact ⟨Below.refl _ _, FC.out _ (Below.refl _ _)⟩ | exact ⟨hLa, FC.out _ hLa⟩ | exact ⟨hRb, FC.out _ hRb⟩ | exact ⟨hLe, FC.out _ hLe⟩)
        (first
          | (go_at_call 20; (with_reducible refine (PR.out _ hLa).mono ?_); rintro e we ⟨ve, le, rfl, hoe, hde, hle, hbe⟩; obtain ⟨oe, ke, rfl⟩ := own_shape hoe; have PK := hid (Pk2.mk1 hoa hda hla hLa hoe hde hle hbe AF.out AT.out (Below.refl wc.heap.size wc).drew.size hLa.size); have hLe : Below wc.heap.size wc we := hLa.trans (hbe.mono hLa.size); clear hbe hoe)
          | (go_at_call 20; (with_reducible refine (PL.out _ hRb).mono ?_); rintro e we ⟨ve, le, rfl, hoe, hde, hle, hbe⟩; obtain ⟨oe, ke, rfl⟩ := own_shape hoe; have PK := hid (Pk2.mk2 hob hdb hlb hRb hoe hde hle hbe AF.out AT.out (Below.refl wc.heap.size wc).drew.size hRb.size); have hLe : Below wc.heap.size wc we := hRb.trans (hbe.mono hRb.size); clear hbe hoe)
          | (go_at_call 20; (with_reducible refine (PL.out _ (Below.refl wc.heap.size wc).drew).mono ?_); rintro e wa ⟨va, la, rfl, hoa, hda, hla, hba⟩; obtain ⟨oa, ka, rfl⟩ := own_shape hoa; have hLa : Below wc.heap.size wc wa := (Below.refl wc.heap.size wc).drew.trans hba; clear hba)
          | (go_at_call 20; (with_reducible refine (PR.out _ (Below.refl wc.heap.size wc).drew).mono ?_); rintro e wb ⟨vb, lb, rfl, hob, hdb, hlb, hbb⟩; obtain ⟨ob, kb, rfl⟩ := own_shape hob; have hRb : Below wc.heap.size wc wb := (Below.refl wc.heap.size wc).drew.trans hbb; clear hbb))
      all_goals (go_wp2_with fail; go_meet; exact ⟨_, _, _, _, _, _, rfl, rfl, PK.out⟩)
    case rest =>
      obtain ⟨o1, k1, o2, k2, l, r, rfl, rfl, hP⟩ := hcut
      have HP := hid hP
      have hcl : l.length ≤ k1 := by
        obtain ⟨_, _, he, h1, -⟩ := hP.r1
        simp only [Value.slice.injEq] at he
        omega
      have hcr : r.length ≤ k2 := by
        obtain ⟨_, _, he, h1, -⟩ := hP.r2
        simp only [Value.slice.injEq] at he
        omega
      obtain ⟨n, hn⟩ : ∃ n, min l.length r.length = n := ⟨_, rfl⟩
      have HN := hid hn
      have mn : min (l.length : Int) (r.length : Int) = (n : Int) := by omega
      have n1 : (n : Int) ≤ (k1 : Int) := by omega
      have n2 : (n : Int) ≤ (k2 : Int) := by omega
      have n0 : (0 : Int) ≤ (n : Int) := by omega
      have TD := hid (TW.out _ hP.below)
      have BD := hid (show Below w0.heap.size w0 _ from HT.out.below.trans (hP.below.mono HT.out.below.size))
      obtain ⟨y0, -, -, z0, -, -, -⟩ := (TD.out).1
      obtain ⟨-, ⟨r0, r1, r2, r3⟩, rf⟩ := BX.out _ BD.out
      have rf0 := rf 0
      have rf1 := rf 1
      have rf2 := rf 2
      have rf3 := rf 3
      clear p0 p1 p2 p3 hP hcl hcr hn rf
      go_upto_region 4 with fail
      go_region
      obtain ⟨wf, hwf⟩ : ∃ wf : World, ((((wc.setCell ⟨w.heap.size + 1 + 1, 0, none⟩ (.string (nmT fi))).setCell ⟨w.heap.size + 1 + 1, 1, none⟩ (.slice o1 n k1)).setCell ⟨w.heap.size + 1 + 1, 2, none⟩ (.string (nmT ti))).setCell ⟨w.heap.size + 1 + 1, 3, none⟩ (.slice o2 n k2)) = wf := ⟨_, rfl⟩
      obtain ⟨s0, s1, s2, s3⟩ := set4I r0 r1 r2 r3 hwf
      have rlt := Nat.lt_of_lt_of_le (show w.heap.size + 1 + 1 < w0.heap.size by have := HS0.out; omega) HT.out.below.size
      have F1 := far_cut (HP.out.f1 _ rlt) (show n ≤ l.length by have := HN.out; omega)
      have F2 := far_cut (HP.out.f2 _ rlt) (show n ≤ r.length by have := HN.out; omega)
      have QL : RdE encI wf (.slice o1 n k1) (l.take n) := by rw [← hwf]; exact RdE.set4 (HP.out.r1.takeI (by have := HN.out; omega)) F1
      have QR : RdE encI wf (.slice o2 n k2) (r.take n) := by rw [← hwf]; exact RdE.set4 (HP.out.r2.takeI (by have := HN.out; omega)) F2
      have QB : Below w.heap.size w wf := by rw [← hwf]; exact below_set4 (B0.out.trans (BD.out.mono B0.out.size)) (by omega)
      rw [hwf]
      go_wp2_with fail
      refine bodyPost_ret (v := .agg #[.string (nmT fi), .slice o1 n k1, .string (nmT ti), .slice o2 n k2]) (by simp [results, Tryz.results8, go_sem, s0, s1, s2, s3]) rfl ⟨(fi, ti, l.take n, r.take n), o1, n, k1, o2, n, k2, rfl, ⟨FLT.out, TLT.out, ?_, fun a ha => ?_, fun a ha => ?_, HP.out.d1.sublist (List.take_sublist _ _), HP.out.d2.sublist (List.take_sublist _ _)⟩, QL.below (Below.refl _ _).drew, QR.below (Below.refl _ _).drew, QB.drew⟩
      · show (l.take n).length = (r.take n).length
        rw [List.length_take, List.length_take]; have := HN.out; omega
      · show a < nD ds fi
        rw [NFH.out]; exact HP.out.b1 a (List.mem_of_mem_take ha)
      · show a < nD ds ti
        rw [NTH.out]; exact HP.out.b2 a (List.mem_of_mem_take ha)

end Go.Proofs.YtgahpgmagfngfaaGreatDoor

