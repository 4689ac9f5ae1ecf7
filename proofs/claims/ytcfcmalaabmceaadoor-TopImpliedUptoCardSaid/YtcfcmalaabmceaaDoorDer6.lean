/- The walk of derivation.Prune, where nothing goes. -/
import Derived.Test.YtcfcmalaabmceaaDoorDer5
import Derived.Test.YtcfcmalaabmceaaDoorGDer
import Derived.Test.YtcfcmalaabmceaaDoorGWalk
import Derived.Test.YtcfcmalaabmceaaDoorGPtA
import Derived.StillTailTactics
namespace Go.Proofs.YtcfcmalaabmceaaDoor
open Go.RowKit
set_option linter.unusedVariables false
set_option linter.unusedSimpArgs false

/-- slices.Clone. -/
theorem cloneI_any (xs : List Nat) (v : Value) (w : World) (hv : RdE encI w v xs) (h44 : xs.length < 17592186044416) :
    Calls Tryd.prog 26 #[v] w fun e w' => ∃ v', e = .returned v' ∧ w'.ownsRow w.heap.size 3 1 v' xs.length (xs.map encI) ∧ Below w.heap.size w w' := by
  obtain ⟨ao, cap, rfl, h1, h2, h3⟩ := hv
  have heq := fun (a : Option Addr) (n c : Nat) (w : World) => Lib.run_eql_slice_nil (P := Tryd.prog) w 65 3 a n c 0 0 undInts
  cases ao with
  | none =>
    have hx : xs = [] := by
      cases xs with
      | nil => rfl
      | cons x l => obtain ⟨b, off, h, _⟩ := h3 (by simp); cases h
    subst hx
    clear h3
    go_enter Tryd.func26, Tryd.ntmps26
    go_wp2_with fail
    go_ret
    exact ⟨_, rfl, World.ownsRow_nil _ _ _ _, Below.refl _ _⟩
  | some a =>
    obtain ⟨i, hi, hz0, hz1, hz2⟩ := info_parts infoInt
    have hcells : ∀ (j : Nat) (u : Value), (xs.map encI)[j]? = some u → w.cell? (a.add j) = some u := by
      intro j u hu
      rw [List.getElem?_map, Option.map_eq_some_iff] at hu
      obtain ⟨x, hx, rfl⟩ := hu
      have hj : j < xs.length := (List.getElem?_eq_some_iff.1 hx).1
      obtain ⟨b, off, e, _, hc⟩ := h3 (by omega)
      cases e
      rw [Addr.add_lit]
      exact hc j x hx
    have hcells2 : ∀ (j : Nat) (u : Value), (xs.map encI)[j]? = some u → (w.alloc (.cells #[] 3)).cell? (a.add j) = some u := fun j u hu => World.cell?_alloc_lt _ _ _ (World.block_lt_of_cell? _ _ (hcells j u hu)) |>.trans (hcells j u hu)
    have HC := hid hcells2
    have hown := World.ownsRow_lit (size := 1) (e := 3) w #[] 0 (Nat.le_refl _) (Nat.zero_le _) rfl
    clear hcells hcells2 h3
    go_enter Tryd.func26, Tryd.ntmps26
    have s1 : ∀ u ∈ xs.map encI, u.oneCell' = true := by intro u hu; obtain ⟨x, _, rfl⟩ := List.mem_map.1 hu; rfl
    have S1 := hid s1
    clear s1
    go_wp2_with (at_builtin; refine wpList_append_own _ rfl _ _ 65 rfl w.heap.size 3 i (.int .i64 0) 1 8 undInts hi hz0 hz1 hz2 rfl (by decide) _ _ _ rfl hown a xs.length cap (xs.map encI) rfl (by simp) HC.out S1.out (by unfold maxLen; omega) (by omega) (by simp) ?_)
    · intro v' w1 h1' hg _
      have B : Below w.heap.size w w1 := ((Below.refl _ w).alloc (Nat.le_refl _) _).grown hg (by simp) (fun k hk => by simp [Value.ownBlock] at hk; omega)
      have BB := hid B
      clear B hg
      have H := hid h1'
      clear h1'
      go_wp2_with fail
      go_ret
      exact ⟨_, rfl, by simpa using H.out, BB.out⟩


theorem setCell_self {w : World} {b o : Nat} {v : Value} (h : w.cell? ⟨b, o, none⟩ = some v) : w.setCell ⟨b, o, none⟩ v = w := by
  have key : (w.setCell ⟨b, o, none⟩ v).heap = w.heap := by
    apply Array.ext_getElem?
    intro i
    unfold World.setCell
    simp only [Array.getElem?_modify]
    split
    · rename_i e
      subst e
      unfold World.cell? at h
      simp only at h
      cases hb : w.heap[b]? with
      | none => rfl
      | some ob =>
        rw [hb] at h
        cases ob <;> simp at h ⊢
        apply Array.ext_getElem?
        intro j
        rw [Array.getElem?_setIfInBounds]
        split
        · rename_i e
          subst e
          rw [h, if_pos (Array.getElem?_eq_some_iff.1 h).1]
        · rfl
    · rfl
  unfold World.setCell at key ⊢
  simp only at key
  rw [key]
def rowB (n : Nat) (f : Nat → Bool) : List Value := (List.range n).map fun x => Value.bool (f x)
theorem rowB_at {n k : Nat} (f : Nat → Bool) (h : k < n) : (rowB n f)[k]? = some (.bool (f k)) := by unfold rowB; rw [List.getElem?_map, List.getElem?_range h]; rfl
theorem rowB_congr {n : Nat} {f g : Nat → Bool} (h : ∀ k, k < n → f k = g k) : rowB n f = rowB n g := List.map_congr_left fun k hk => by rw [h k (List.mem_range.1 hk)]
theorem rowB_set (n k : Nat) (f : Nat → Bool) : (rowB n f).set k (.bool true) = rowB n (fun x => f x || decide (x = k)) := by
  unfold rowB
  apply List.ext_getElem?
  intro j
  rw [List.getElem?_set, List.getElem?_map, List.getElem?_map]
  simp only [List.length_map, List.length_range]
  by_cases hj : j < n
  · rw [List.getElem?_range hj]
    by_cases e : k = j
    · subst e; simp [hj]
    · rw [if_neg e]; simp [Ne.symm e, show ¬ j = k from fun h => e h.symm]
  · rw [List.getElem?_eq_none (l := List.range n) (by simp; omega)]
    by_cases e : k = j
    · subst e; simp [hj]
    · rw [if_neg e]; rfl
theorem rowB_false (n : Nat) : rowB n (fun _ => false) = List.replicate n (.bool false) := by
  unfold rowB
  rw [List.map_const', List.length_range]
theorem undBoolD : Tryd.prog.underlying 74 = some (.slice 4) := by kernel_rfl
theorem infoBoolD : (Tryd.prog.info? 4).map (fun i => (i.zero, i.size, i.bytes)) = some (some (.bool false), 1, 1) := by kernel_rfl
set_option maxHeartbeats 6400000 in
set_option maxRecDepth 100000 in
theorem dprune_any (sts : List St3) (v : Value) (w : World) (hs : RdC cS w v sts) (hf : ∀ s ∈ sts, RdE encI w s.2.1 s.2.2.1) (h2 : ∀ s ∈ sts, s.2.2.1.length ≤ 2)
    (hlt : ∀ (i : Nat) (s : Stp), (sts.map toS)[i]? = some s → refB s = true → ∀ k ∈ s.2.1, k < i) (hu : UseOk (sts.map toS) ((sts.map toS).length - 1)) (hl : sts.length ≤ 100000000000) :
    Calls Tryd.prog 11 #[v] w fun e w' => ∃ (v' : Value) (ss : List St3), e = .returned v' ∧ OwnSt w' w.heap.size v' ss ∧ ss.map toS = sts.map toS ∧ Below w.heap.size w w' := by
  obtain ⟨so, scap, rfl, -, hc⟩ := RdSt.split hs
  have SC := hid hc
  have HF := hid hf
  have H2 := hid h2
  have HLT0 := hid hlt
  have HU := hid hu
  have L0 := hid hl
  have n0 : (0 : Int) ≤ (sts.length : Int) := by omega
  have sl : (sts.length : Int) ≤ 100000000000 := by omega
  have CL := hid (fun (xs : List Nat) (x : Value) (W : World) (h : RdE encI W x xs) (h2 : xs.length ≤ 2) => cloneI_any xs x W h (by omega))
  clear hs hc hf h2 hlt hu hl
  go_enter Tryd.func11, Tryd.ntmps11
  go_wp2_with fail
  go_loopw [3, 18] (fun o x wr => ∃ (k : Nat) (ss : List St3), k ≤ sts.length ∧ x = .int .i64 (k : Int) ∧ OwnSt wr w.heap.size o ss ∧ Hid (ss.map toS = (sts.map toS).take k) ∧ Hid (ss.length = k) ∧ Below w.heap.size w wr) (fun _ x _ => sts.length - (intOf x).toNat)
  case atStart => exact ⟨0, [], Nat.zero_le _, rfl, ⟨World.ownsRow_nil _ _ _ _, by simp⟩, hid (by simp), hid rfl, Below.refl _ _⟩
  case round =>
    obtain ⟨k, ss, hk, rfl, hos, HM, HK, hnx⟩ := hrel
    have k0 : (0 : Int) ≤ (k : Int) := by omega
    by_cases hlt : k < sts.length
    · have hltI : (k : Int) < (sts.length : Int) := by omega
      obtain ⟨⟨rl, fv, l, x, y⟩, hsk⟩ := get_some hlt
      have hmem := List.mem_of_getElem? hsk
      have HM2 := hid (show (sts.map toS).take (k + 1) = ss.map toS ++ [(rl, l, (x, y))] by rw [take_next (show (sts.map toS)[k]? = some ((rl, l, (x, y)) : Stp) by rw [List.getElem?_map, hsk]; rfl), HM.out])
      have FS := (HF.out _ hmem).below hnx
      have FL := hid (H2.out _ hmem)
      simp only at FS FL
      obtain ⟨fo, fcap, rfl, -⟩ := FS.split
      obtain ⟨b, off, rfl, hd⟩ := SC.out k _ hsk
      obtain ⟨e0, e1, e2, e3⟩ := hd wr hnx
      simp only at e0 e1 e2 e3
      have BX := hid (below_alloc wr (.cells #[.int .i64 rl, .slice fo l.length fcap, .int .u32 (iv x), .int .u32 (iv y)] 72))
      have C4 := hid (fun (W : World) h => cells4D (w := wr) (a := .int .i64 rl) (b := .slice fo l.length fcap) (c := .int .u32 (iv x)) (d := .int .u32 (iv y)) (t := 72) W h)
      have ZF := hid (show (wr.alloc (.cells #[.int .i64 rl, .slice fo l.length fcap, .int .u32 (iv x), .int .u32 (iv y)] 72)).frozen? ⟨wr.heap.size, 1, none⟩ = false by simp)
      obtain ⟨w1, hw1⟩ : ∃ w1 : World, wr.alloc (.cells #[.int .i64 rl, .slice fo l.length fcap, .int .u32 (iv x), .int .u32 (iv y)] 72) = w1 := ⟨_, rfl⟩
      rw [hw1] at BX C4 ZF
      have W1 := hid hw1
      obtain ⟨bx, hbx⟩ : ∃ bx, wr.heap.size = bx := ⟨_, rfl⟩
      have HBX := hid hbx
      rw [hbx] at C4 ZF
      have SB := hid (show w.heap.size ≤ bx by rw [← hbx]; exact hnx.size)
      have HO := hid hos
      have HNX := hid hnx
      have FE := hid FS
      have HLT := hid hlt
      clear hsk hmem FS hd hw1 hbx hos hnx hlt HM
      go_upto_region 5 with fail
      rw [W1.out, HBX.out]
      clear e0 e1 e2 e3
      obtain ⟨c0, c1, c2, c3⟩ := C4.out _ (Below.refl _ _)
      go_wp2_with fail
      refine (CL.out l _ w1 (FE.out.below BX.out) FL.out).mono ?_
      rintro e w2 ⟨v2, rfl, ho2, hb2⟩
      obtain ⟨ao2, cap2, rfl, -⟩ := (RdE.of_owns ho2 (by have := FL.out; omega)).split
      obtain ⟨c0', c1', c2', c3'⟩ := C4.out _ hb2
      have zf := (hb2.frozen (p := ⟨bx, 1, none⟩) (World.block_lt_of_cell? _ _ c1)).trans ZF.out
      have BL := hid (World.block_lt_of_cell? _ _ c1')
      have O2 := hid ((HO.out.below BX.out).below hb2)
      have F2 := hid (own_mono ho2 (show w.heap.size ≤ w1.heap.size from Nat.le_trans HNX.out.size BX.out.size))
      have FLT := hid (fun (j : Nat) e => (ho2.lt j e).1)
      have B2 := hid (show Below w.heap.size w w2 from HNX.out.trans ((BX.out.trans (hb2.mono BX.out.size)).mono HNX.out.size))
      have NB := hid (show ∀ j, (Value.slice ao2 l.length cap2).ownBlock = some j → j ≠ bx from fun j e h => by
        have h1 := (ho2.lt j e).1
        have h2 := World.block_lt_of_cell? _ _ c1
        rw [h] at h1
        exact Nat.lt_irrefl _ (Nat.lt_of_lt_of_le h2 h1))
      clear c0 c1 c2 c3 ho2 hb2
      go_upto_region 6 with fail
      have g0 : (w2.setCell ⟨bx, 1, none⟩ (.slice ao2 l.length cap2)).cell? ⟨bx, 0, none⟩ = _ := (World.cell?_setCell_other _ _ _ _ (by simp)).trans c0'
      have g1 : (w2.setCell ⟨bx, 1, none⟩ (.slice ao2 l.length cap2)).cell? ⟨bx, 1, none⟩ = _ := World.cell?_setCell_same _ _ _ c1'
      have g2 : (w2.setCell ⟨bx, 1, none⟩ (.slice ao2 l.length cap2)).cell? ⟨bx, 2, none⟩ = _ := (World.cell?_setCell_other _ _ _ _ (by simp)).trans c2'
      have g3 : (w2.setCell ⟨bx, 1, none⟩ (.slice ao2 l.length cap2)).cell? ⟨bx, 3, none⟩ = _ := (World.cell?_setCell_other _ _ _ _ (by simp)).trans c3'
      have OB : ∀ j, u3.ownBlock = some j → j ≠ bx := fun j e h => by have := (HO.out.rows.lt j e).2; rw [HBX.out, h] at this; exact Nat.lt_irrefl _ this
      have O3 := hid (show OwnSt (w2.setCell ⟨bx, 1, none⟩ (.slice ao2 l.length cap2)) w.heap.size u3 ss from
        ⟨ownsRow_setCell_other (a := ⟨bx, 1, none⟩) O2.out.rows (fun e => OB _ e rfl) _, fun s hs => ownsRow_setCell_other (a := ⟨bx, 1, none⟩) (O2.out.frm s hs) (fun e => by have := ((HO.out.frm s hs).lt _ e).2; rw [HBX.out] at this; exact Nat.lt_irrefl _ this) _⟩)
      have F3 := hid (show (w2.setCell ⟨bx, 1, none⟩ (.slice ao2 l.length cap2)).ownsRow w.heap.size 3 1 (.slice ao2 l.length cap2) l.length (l.map encI) from ownsRow_setCell_other (a := ⟨bx, 1, none⟩) F2.out (fun e => NB.out _ e rfl) _)
      have B3 := hid (B2.out.setCell (p := ⟨bx, 1, none⟩) SB.out (.slice ao2 l.length cap2))
      clear c0' c1' c2' c3' zf OB
      generalize w2.setCell ⟨bx, 1, none⟩ (.slice ao2 l.length cap2) = w3 at *
      have BA := hid (below_alloc w3 (.cells #[.int .i64 rl, .slice ao2 l.length cap2, .int .u32 (iv x), .int .u32 (iv y)] 72))
      go_wp2_with (at_builtin; refine wpList_pushD rfl _ _ 37 rfl w.heap.size 72 (.agg #[.int .i64 0, .slice none 0 0, .int .u32 0, .int .u32 0]) 4 40 undDers infoDer rfl (by decide) (by decide) cS cS_length _ ss rfl (O3.out.rows.alloc _) ⟨w3.heap.size, 0, none⟩ ((rl, .slice ao2 l.length cap2, l, (x, y)) : St3) (by intro v hv; simp [cS] at hv; rcases hv with rfl | rfl | rfl | rfl <;> rfl) rfl (cells_newS _ ((rl, .slice ao2 l.length cap2, l, (x, y)) : St3)) (by have := HK.out; have := L0.out; omega) (by have := B3.out.size; simp; omega) ?_)
      intro v8 w8 hown8 hg8 hv8
      have O8 := hid (show w8.ownsRow w.heap.size 72 4 v8 (ss ++ [((rl, .slice ao2 l.length cap2, l, (x, y)) : St3)]).length ((ss ++ [((rl, .slice ao2 l.length cap2, l, (x, y)) : St3)]).flatMap cS) by simpa using hown8)
      have F8 := hid (fun (s : St3) (hs : s ∈ ss ++ [((rl, .slice ao2 l.length cap2, l, (x, y)) : St3)]) => show w8.ownsRow w.heap.size 3 1 s.2.1 s.2.2.1.length (s.2.2.1.map encI) from by
        have key : w3.ownsRow w.heap.size 3 1 s.2.1 s.2.2.1.length (s.2.2.1.map encI) := by
          rcases List.mem_append.1 hs with h | h
          · exact O3.out.frm s h
          · rw [List.mem_singleton] at h; subst h; exact F3.out
        have k2 := own_below key BA.out
        exact k2.kept hg8 (own_neD k2 (own_below O3.out.rows BA.out) (by decide)))
      have B8 := hid (show Below w.heap.size w w8 from by
        have h1 := B3.out.trans (BA.out.mono B3.out.size)
        exact h1.grown hg8 (by have := B3.out.size; simp; omega) (fun j hj => (O3.out.rows.lt j hj).1))
      obtain ⟨ao8, n8, cap8, rfl⟩ : ∃ ao n cap, v8 = .slice ao n cap := by obtain ⟨a, c, h, -⟩ := RdC.of_owns cS_length O8.out (by rw [List.length_append, List.length_singleton]; have := HK.out; have := L0.out; omega); exact ⟨a, _, c, h⟩
      have KL := hid (show (ss ++ [((rl, .slice ao2 l.length cap2, l, (x, y)) : St3)]).length = k + 1 by rw [List.length_append, List.length_singleton, HK.out])
      have MP := hid (show (ss ++ [((rl, .slice ao2 l.length cap2, l, (x, y)) : St3)]).map toS = (sts.map toS).take (k + 1) by rw [HM2.out, List.map_append]; rfl)
      clear hown8 hg8 hv8
      go_wp2_with fail
      go_roundw
      case rel => exact ⟨k + 1, _, by have := HLT.out; omega, by go_num, ⟨O8.out, F8.out⟩, MP, KL, B8.out⟩
      case measure => have := HLT.out; simp [intOf]; omega
    · have hltI : ¬ (k : Int) < (sts.length : Int) := by omega
      have hks : k = sts.length := by omega
      obtain ⟨n, hn⟩ : ∃ n, ss.length = n := ⟨_, rfl⟩
      have HN := hid hn
      have hsn : sts.length = n := by rw [← hn, HK.out, hks]
      have SM := hid (show ss.map toS = sts.map toS by rw [HM.out, hks, List.take_of_length_le (by simp)])
      have SLN := hid (show (sts.map toS).length = n by rw [List.length_map]; exact hsn)
      have NL := hid (show n ≤ 100000000000 by have := L0.out; omega)
      have n00 : (0 : Int) ≤ (n : Int) := by omega
      have n99 : (n : Int) ≤ 100000000000 := by have := NL.out; omega
      obtain ⟨st, hst⟩ : ∃ st, sts.map toS = st := ⟨_, rfl⟩
      rw [hst] at SM SLN HU HLT0
      have HST := hid hst
      obtain ⟨wb, rfl⟩ : ∃ wb : World, wb = wr := ⟨_, rfl⟩
      have RS := hid (RdC.of_owns cS_length hos.rows (by rw [hn]; have := NL.out; omega))
      obtain ⟨oo, ocap, hoe, -, hoc⟩ := RdSt.split RS.out
      rw [hn] at hoe
      subst hoe
      have OC := hid hoc
      have OF := hid (fun (q : Nat) (s : St3) (h : ss[q]? = some s) => hos.frm s (List.mem_of_getElem? h))
      have HOS := hid hos
      have NXB := hid hnx
      have SAT := hid (fun (q : Nat) (s : St3) (h : ss[q]? = some s) => show st[q]? = some (toS s) by rw [← SM.out, List.getElem?_map, h]; rfl)
      obtain ⟨i0, hi, hz0, hz1, hz2⟩ := info_parts infoBoolD
      have I0 := hid hi
      have I1 := hid hz0
      have I2 := hid hz1
      have I3 := hid (show i0.bytes * n ≤ 281474976710656 by rw [hz2]; have := NL.out; omega)
      clear hos hoc hnx hlt hk hks hsn hn hst HM HK hi hz0 hz1 hz2
      go_wp2_with (at_make; refine wpList_make_full _ rfl _ _ 74 rfl wb.heap.size 4 i0 (.bool false) 1 undBoolD I0.out I1.out I2.out _ _ _ _ n rfl rfl (by simp) (by simp) I3.out (by have := NL.out; unfold maxLen; omega) (Nat.le_refl _) ?_)
      intro w1 hown hgrow
      have hb1 : Below wb.heap.size wb w1 := ⟨hgrow.os, hgrow.tape, hgrow.output, hgrow.size, fun k hk => hgrow.block k hk (fun e => by cases e)⟩
      obtain ⟨ub, hub⟩ : ∃ ub, wb.heap.size = ub := ⟨_, rfl⟩
      have O1 := hid (show w1.ownsRow ub 4 1 (.slice (some ⟨ub, 0, none⟩) n n) n (rowB n (usedB st n)) by
        rw [← hub, rowB_congr (g := fun _ => false) (fun k hk => by have := usedB_start (st := st) (k := k) (by rw [SLN.out]; exact hk); rw [SLN.out] at this; exact this), rowB_false]
        first | exact hown | simpa [toList_madeCells_one, Value.cells] using hown)
      have HUB := hid hub
      rw [hub] at hb1
      rw [hub]
      have B1 := hid hb1
      clear hown hgrow hub hb1
      go_wp2_with fail
      go_loopw [7] (fun x wr => ∃ (k : Nat) (z : Int), k ≤ n ∧ z = (k : Int) - 1 ∧ x = .int .i64 z ∧ wr.ownsRow ub 4 1 (.slice (some ⟨ub, 0, none⟩) n n) n (rowB n (usedB st k)) ∧ Below ub wb wr) (fun x _ => (intOf x + 1).toNat)
      case atStart => exact ⟨n, (n : Int) - 1, Nat.le_refl _, rfl, by first | rfl | go_num, O1.out, B1.out⟩
      case round =>
        obtain ⟨k, z, hk, hz, rfl, hown, hnx⟩ := hrel
        by_cases hk0 : k = 0
        · have hzn : decide (z ≥ 0) = false := by rw [decide_eq_false_iff_not]; omega
          have hzn2 : ¬ (0 : Int) ≤ z := by omega
          have hz1 : ¬ z ≥ 0 := by omega
          have HU0 := hid (fun (q : Nat) (h : q < n) => show wr.cell? ⟨ub, q, none⟩ = some (.bool true) by rw [hown.cellAt q (by omega), rowB_at _ h, hk0, usedB_all])
          obtain ⟨wc, rfl⟩ : ∃ wc : World, wc = wr := ⟨_, rfl⟩
          have NXC := hid hnx
          obtain ⟨i1, hi, hz0', hz1', hz2'⟩ := info_parts infoInt
          have J0 := hid hi
          have J1 := hid hz0'
          have J2 := hid hz1'
          have J3 := hid (show i1.bytes * n ≤ 281474976710656 by rw [hz2']; have := NL.out; omega)
          clear hown hnx hk hk0 hz hi hz0' hz1' hz2'
          go_wp2_with (at_make; refine wpList_make_full _ rfl _ _ 65 rfl wc.heap.size 3 i1 (.int .i64 0) 1 undInts J0.out J1.out J2.out _ _ _ _ n rfl rfl (by simp) (by simp) J3.out (by have := NL.out; unfold maxLen; omega) (Nat.le_refl _) ?_)
          intro w1 hown hgrow
          have hb1 : Below wc.heap.size wc w1 := ⟨hgrow.os, hgrow.tape, hgrow.output, hgrow.size, fun k hk => hgrow.block k hk (fun e => by cases e)⟩
          obtain ⟨nb, hnb⟩ : ∃ nb, wc.heap.size = nb := ⟨_, rfl⟩
          have O6 := hid (show w1.ownsRow nb 3 1 (.slice (some ⟨nb, 0, none⟩) n n) n ((fillL n 0 (fun j => j) 0).map encI) by
            rw [← hnb, fillL_zero, List.map_replicate, show encI 0 = .int .i64 0 from rfl]
            first | exact hown | simpa [toList_madeCells_one, Value.cells] using hown)
          have HNB := hid hnb
          rw [hnb] at hb1
          rw [hnb]
          have B6 := hid hb1
          have NBU := hid (show ub ≤ nb by rw [← hnb, ← HUB.out]; exact NXC.out.size)
          clear hown hgrow hnb hb1
          go_wp2_with fail
          go_loopw [11, 98] (fun c x wr => ∃ k : Nat, k ≤ n ∧ c = .int .i64 (k : Int) ∧ x = .int .i64 (k : Int) ∧ wr.ownsRow nb 3 1 (.slice (some ⟨nb, 0, none⟩) n n) n ((fillL n 0 (fun j => j) k).map encI) ∧ Below nb wc wr) (fun _ x _ => n - (intOf x).toNat)
          case atStart => exact ⟨0, Nat.zero_le _, rfl, rfl, O6.out, B6.out⟩
          case round =>
            obtain ⟨k, hk, rfl, rfl, hown, hnx⟩ := hrel
            have k0 : (0 : Int) ≤ (k : Int) := by omega
            have BWB := hid (show Below ub wb wr from NXC.out.trans (hnx.mono NBU.out))
            by_cases hlt : k < n
            · have hltI2 : (k : Int) < (n : Int) := by omega
              obtain ⟨⟨rl, fv, l, x, y⟩, hsp⟩ := get_some (show k < ss.length by rw [HN.out]; exact hlt)
              have OFP := hid (OF.out k _ hsp)
              have SP := hid (SAT.out k _ hsp)
              obtain ⟨ob, ooff, rfl, hod⟩ := OC.out k _ hsp
              have HOD := hid hod
              simp only at HOD OFP
              unfold toS at SP
              simp only at SP
              have L2 := hid (show l.length ≤ 2 from by
                have h := SP.out
                rw [← HST.out, List.getElem?_map] at h
                obtain ⟨s', hs', e'⟩ := Option.map_eq_some_iff.1 h
                have := H2.out s' (List.mem_of_getElem? hs')
                unfold toS at e'
                simp only [Prod.mk.injEq] at e'
                rw [e'.2.1] at this
                exact this)
              obtain ⟨fo, fcap, rfl, -, hfc⟩ := (RdE.of_owns OFP.out (by have := L2.out; omega)).split
              have FC := hid hfc
              have hl2 : (l.length : Int) ≤ 2 := by have := L2.out; omega
              have HLT := hid hlt
              obtain ⟨e0, e1, e2, e3⟩ := HOD.out wr (by rw [HUB.out]; exact BWB.out)
              try simp only at e0 e1 e2 e3
              have BX := hid (below_alloc wr (.cells #[.int .i64 rl, .slice fo l.length fcap, .int .u32 (iv x), .int .u32 (iv y)] 72))
              have C4 := hid (fun (W : World) h => cells4D (w := wr) (a := .int .i64 rl) (b := .slice fo l.length fcap) (c := .int .u32 (iv x)) (d := .int .u32 (iv y)) (t := 72) W h)
              obtain ⟨w5, hw5⟩ : ∃ w5 : World, wr.alloc (.cells #[.int .i64 rl, .slice fo l.length fcap, .int .u32 (iv x), .int .u32 (iv y)] 72) = w5 := ⟨_, rfl⟩
              rw [hw5] at BX C4
              have W5 := hid hw5
              obtain ⟨bx, hbx⟩ : ∃ bx, wr.heap.size = bx := ⟨_, rfl⟩
              have HBX := hid hbx
              rw [hbx] at C4
              have SNB := hid (show nb < bx by
                rw [← hbx]
                rcases hown.2 with ⟨h, _⟩ | ⟨g, cap, cur, hv, _, hg, _⟩
                · cases h
                · cases hv; exact (Array.getElem?_eq_some_iff.1 hg).1)
              have HU5 := hid (fun (W : World) (h : Below w5.heap.size w5 W) => show W.cell? ⟨ub, k, none⟩ = some (.bool true) from by
                have h1 := HU0.out k hlt
                have hlt1 := World.block_lt_of_cell? _ _ h1
                rw [HNB.out] at hlt1
                have h2 := (hnx.cell (p := ⟨ub, k, none⟩) hlt1).trans h1
                have h3 := (BX.out.cell (p := ⟨ub, k, none⟩) (World.block_lt_of_cell? _ _ h2)).trans h2
                exact (h.cell (p := ⟨ub, k, none⟩) (World.block_lt_of_cell? _ _ h3)).trans h3)
              have ON := hid (own_below hown BX.out)
              have BN := hid (show Below nb wc w5 from hnx.trans (BX.out.mono (by rw [← HNB.out]; exact hnx.size)))
              clear hown hnx hsp hod hfc hw5 hbx hlt hk
              go_upto_region 26 with fail
              rw [W5.out, HBX.out]
              clear e0 e1 e2 e3
              obtain ⟨c0, c1, c2, c3⟩ := C4.out _ (Below.refl _ _)
              have hu5 := HU5.out _ (Below.refl _ _)
              go_wp2_with fail
              refine (drefers_any rl fo l.length fcap x y w5).mono ?_
              rintro e w6 ⟨rfl, hb6⟩
              have B56 := hid hb6
              clear hb6 c0 c1 c2 c3 hu5
              have B6 := hid (show Below nb wc w6 from BN.out.trans (B56.out.mono (by have h1 := SNB.out; have h2 := HBX.out; have h3 := BX.out.size; omega)))
              have O6' := hid (own_below ON.out B56.out)
              -- the end of a round, in a world that has kept all
              have FIN := hid (fun (W : World) (h : Below w5.heap.size w5 W) => show (W.cell? ⟨bx, 0, none⟩ = some (.int .i64 rl) ∧ W.cell? ⟨bx, 1, none⟩ = some (.slice fo l.length fcap) ∧ W.cell? ⟨bx, 2, none⟩ = some (.int .u32 (iv x)) ∧ W.cell? ⟨bx, 3, none⟩ = some (.int .u32 (iv y))) ∧ W.ownsRow nb 3 1 (.slice (some ⟨nb, 0, none⟩) n n) n ((fillL n 0 (fun j => j) k).map encI) ∧ Below nb wc W from
                ⟨C4.out W h, own_below ON.out h, BN.out.trans (h.mono (by have h1 := SNB.out; have h2 := HBX.out; have h3 := BX.out.size; omega))⟩)
              have OFZ := hid (fun (W : World) (h : Below ub wb W) (j : Nat) => show W.frozen? ⟨ob, j, none⟩ = false from by
                have h1 := own_below HOS.out.rows (by rw [HUB.out]; exact h)
                rcases h1.2 with ⟨h2, _⟩ | ⟨g, cap, cur, hv, _⟩
                · cases h2
                · cases hv; exact h1.frozenAt _)
              have OBL := hid (show ob ≠ nb from fun e => by
                obtain ⟨h0, -, -, -⟩ := HOD.out wb (Below.refl _ _)
                have h1 := World.block_lt_of_cell? _ _ h0
                have h2 := NBU.out
                rw [HUB.out] at h1
                simp only at h1
                omega)
              have NBX := hid (show bx ≠ nb by have := SNB.out; omega)
              rcases hrb : (rl == 3 || rl == 4) with _ | _
              · clear hrb
                obtain ⟨⟨c0, c1, c2, c3⟩, hown, hnx⟩ := FIN.out w6 B56.out
                have BW := hid (show Below ub wb w6 from NXC.out.trans (hnx.mono NBU.out))
                obtain ⟨e0, e1, e2, e3⟩ := HOD.out w6 (by rw [HUB.out]; exact BW.out)
                have hcn : w6.cell? ⟨nb, k, none⟩ = some (.int .i64 0) := by
                  rw [hown.cellAt k (by have := HLT.out; omega), List.getElem?_map, fillL_at HLT.out, if_neg (by omega)]; rfl
                have hfn : w6.frozen? ⟨nb, k, none⟩ = false := hown.frozenAt _
                have HO8 := hid hown
                have NX8 := hid hnx
                have CE := hid (And.intro (And.intro c0 (And.intro c1 (And.intro c2 c3))) (And.intro e0 (And.intro e1 (And.intro e2 e3))))
                clear hown hnx c0 c1 c2 c3 e0 e1 e2 e3
                go_upto_region 34 with fail
                have ST := (HO8.out.stored k (.int .i64 (k : Int))).1
                have O9 := hid (show (w6.setCell ⟨nb, k, none⟩ (.int .i64 (k : Int))).ownsRow nb 3 1 (.slice (some ⟨nb, 0, none⟩) n n) n ((fillL n 0 (fun j => j) (k + 1)).map encI) by
                  rw [← fillL_set, List.map_set]; exact ST)
                have B9 := hid (NX8.out.setCell (p := ⟨nb, k, none⟩) (Nat.le_refl _) (.int .i64 (k : Int)))
                have kc : ∀ (b o : Nat) (v : Value), b ≠ nb → w6.cell? ⟨b, o, none⟩ = some v → (w6.setCell ⟨nb, k, none⟩ (.int .i64 (k : Int))).cell? ⟨b, o, none⟩ = some v := fun b o v hb h => (World.cell?_setCell_other _ _ _ _ (by simp only [ne_eq, Addr.mk.injEq, not_and]; intro h; exact absurd h.symm hb)).trans h
                have c0 := kc _ _ _ NBX.out CE.out.1.1
                have c1 := kc _ _ _ NBX.out CE.out.1.2.1
                have c2 := kc _ _ _ NBX.out CE.out.1.2.2.1
                have c3 := kc _ _ _ NBX.out CE.out.1.2.2.2
                have e0 := kc _ _ _ OBL.out CE.out.2.1
                have e1 := kc _ _ _ OBL.out CE.out.2.2.1
                have e2 := kc _ _ _ OBL.out CE.out.2.2.2.1
                have e3 := kc _ _ _ OBL.out CE.out.2.2.2.2
                generalize w6.setCell ⟨nb, k, none⟩ (.int .i64 (k : Int)) = w9 at *
                have BW9 := hid (show Below ub wb w9 from NXC.out.trans (B9.out.mono NBU.out))
                have z0 := OFZ.out w9 BW9.out (ooff + k * 4)
                have z1 := OFZ.out w9 BW9.out (ooff + k * 4 + 1)
                have z2 := OFZ.out w9 BW9.out (ooff + k * 4 + 2)
                have z3 := OFZ.out w9 BW9.out (ooff + k * 4 + 3)
                have S4 := hid (And.intro (setCell_self e0) (And.intro (setCell_self e1) (And.intro (setCell_self e2) (setCell_self e3))))
                clear ST kc hcn hfn
                go_upto_region 35 with fail
                rw [S4.out.1, S4.out.2.1, S4.out.2.2.1, S4.out.2.2.2]
                clear c0 c1 c2 c3 e0 e1 e2 e3 z0 z1 z2 z3
                go_wp2_with fail
                go_roundw
                case rel => exact ⟨k + 1, by have := HLT.out; omega, by go_num, by go_num, O9.out, B9.out⟩
                case measure => have := HLT.out; simp [intOf] <;> omega
              · have HRB := hid (show refB ((rl, l, (x, y)) : Stp) = true from hrb)
                clear hrb
                obtain ⟨c0, c1, c2, c3⟩ := C4.out w6 B56.out
                go_wp2_with fail
                clear c0 c1 c2 c3
                go_loopw [113] (fun x wr => ∃ q : Nat, q ≤ l.length ∧ x = .int .i64 (q : Int) ∧ Below w5.heap.size w5 wr) (fun x _ => l.length - (intOf x).toNat)
                case atStart => exact ⟨0, Nat.zero_le _, rfl, B56.out⟩
                case round =>
                  obtain ⟨q, hq, rfl, hnx⟩ := hrel
                  have q0 : (0 : Int) ≤ (q : Int) := by omega
                  have q2 : (q : Int) ≤ 2 := by have := L2.out; omega
                  by_cases hlq : q < l.length
                  · have hlqI : (q : Int) < (l.length : Int) := by omega
                    obtain ⟨j, hj⟩ := get_some hlq
                    obtain ⟨fb, foff, hfo, hfd⟩ := FC.out q j hj
                    subst hfo
                    obtain ⟨⟨c0, c1, c2, c3⟩, hown, hnc⟩ := FIN.out wr hnx
                    have BW := hid (show Below ub wb wr from NXC.out.trans (hnc.mono NBU.out))
                    have ej := hfd wr (by rw [HUB.out]; exact BW.out)
                    unfold encI at ej
                    have HJ := HLT0.out k _ SP.out HRB.out j (List.mem_of_getElem? hj)
                    have j0 : (0 : Int) ≤ (j : Int) := by omega
                    have jn : (j : Int) < (n : Int) := by have := HLT.out; omega
                    have hcj : wr.cell? ⟨nb, j, none⟩ = some (.int .i64 (j : Int)) := by
                      rw [hown.cellAt j (by have := HLT.out; omega), List.getElem?_map, fillL_at (by have := HLT.out; omega), if_pos HJ]; rfl
                    have hfz : wr.frozen? ⟨fb, foff + q, none⟩ = false := by
                      have h1 := own_below OFP.out (by rw [HUB.out]; exact BW.out)
                      rcases h1.2 with ⟨h2, _⟩ | ⟨g, cap, cur, hv, _⟩
                      · cases h2
                      · cases hv; exact h1.frozenAt _
                    have NX7 := hid hnx
                    have SELF := hid (setCell_self ej)
                    have HLQ := hid hlq
                    clear hj hfd hown hnc hnx hlq HJ
                    go_wp2_with fail
                    go_still_tail 8, (by kernel_rfl)
                    try rw [SELF.out]
                    go_wp2_with fail
                    go_roundw
                    case rel => exact ⟨q + 1, by have := HLQ.out; omega, by go_num, by first | exact NX7.out.drew | exact NX7.out | (rw [SELF.out]; exact NX7.out.drew)⟩
                    case measure => have := HLQ.out; simp [intOf] <;> omega
                  · have hlqI : ¬ (q : Int) < (l.length : Int) := by omega
                    obtain ⟨⟨c0, c1, c2, c3⟩, hown, hnc⟩ := FIN.out wr hnx
                    clear hnx hlq
                    have hnx := hnc
                    clear hnc
                    have BW := hid (show Below ub wb wr from NXC.out.trans (hnx.mono NBU.out))
                    obtain ⟨e0, e1, e2, e3⟩ := HOD.out wr (by rw [HUB.out]; exact BW.out)
                    have hcn : wr.cell? ⟨nb, k, none⟩ = some (.int .i64 0) := by
                      rw [hown.cellAt k (by have := HLT.out; omega), List.getElem?_map, fillL_at HLT.out, if_neg (by omega)]; rfl
                    have hfn : wr.frozen? ⟨nb, k, none⟩ = false := hown.frozenAt _
                    have HO8 := hid hown
                    have NX8 := hid hnx
                    have CE := hid (And.intro (And.intro c0 (And.intro c1 (And.intro c2 c3))) (And.intro e0 (And.intro e1 (And.intro e2 e3))))
                    clear hown hnx c0 c1 c2 c3 e0 e1 e2 e3
                    go_upto_region 34 with fail
                    have ST := (HO8.out.stored k (.int .i64 (k : Int))).1
                    have O9 := hid (show (wr.setCell ⟨nb, k, none⟩ (.int .i64 (k : Int))).ownsRow nb 3 1 (.slice (some ⟨nb, 0, none⟩) n n) n ((fillL n 0 (fun j => j) (k + 1)).map encI) by
                      rw [← fillL_set, List.map_set]; exact ST)
                    have B9 := hid (NX8.out.setCell (p := ⟨nb, k, none⟩) (Nat.le_refl _) (.int .i64 (k : Int)))
                    have kc : ∀ (b o : Nat) (v : Value), b ≠ nb → wr.cell? ⟨b, o, none⟩ = some v → (wr.setCell ⟨nb, k, none⟩ (.int .i64 (k : Int))).cell? ⟨b, o, none⟩ = some v := fun b o v hb h => (World.cell?_setCell_other _ _ _ _ (by simp only [ne_eq, Addr.mk.injEq, not_and]; intro h; exact absurd h.symm hb)).trans h
                    have c0 := kc _ _ _ NBX.out CE.out.1.1
                    have c1 := kc _ _ _ NBX.out CE.out.1.2.1
                    have c2 := kc _ _ _ NBX.out CE.out.1.2.2.1
                    have c3 := kc _ _ _ NBX.out CE.out.1.2.2.2
                    have e0 := kc _ _ _ OBL.out CE.out.2.1
                    have e1 := kc _ _ _ OBL.out CE.out.2.2.1
                    have e2 := kc _ _ _ OBL.out CE.out.2.2.2.1
                    have e3 := kc _ _ _ OBL.out CE.out.2.2.2.2
                    generalize wr.setCell ⟨nb, k, none⟩ (.int .i64 (k : Int)) = w9 at *
                    have BW9 := hid (show Below ub wb w9 from NXC.out.trans (B9.out.mono NBU.out))
                    have z0 := OFZ.out w9 BW9.out (ooff + k * 4)
                    have z1 := OFZ.out w9 BW9.out (ooff + k * 4 + 1)
                    have z2 := OFZ.out w9 BW9.out (ooff + k * 4 + 2)
                    have z3 := OFZ.out w9 BW9.out (ooff + k * 4 + 3)
                    have S4 := hid (And.intro (setCell_self e0) (And.intro (setCell_self e1) (And.intro (setCell_self e2) (setCell_self e3))))
                    clear ST kc hcn hfn
                    go_upto_region 35 with fail
                    rw [S4.out.1, S4.out.2.1, S4.out.2.2.1, S4.out.2.2.2]
                    clear c0 c1 c2 c3 e0 e1 e2 e3 z0 z1 z2 z3
                    go_wp2_with fail
                    go_roundw
                    case rel => exact ⟨k + 1, by have := HLT.out; omega, by go_num, by go_num, O9.out, B9.out⟩
                    case measure => have := HLT.out; simp [intOf] <;> omega
            · have hltI2 : ¬ (k : Int) < (n : Int) := by omega
              have HOSF := hid (HOS.out.below (by rw [HUB.out]; exact BWB.out))
              have BF := hid (NXB.out.trans (BWB.out.mono (by rw [← HUB.out]; exact NXB.out.size)))
              have hcap : n ≤ ocap := by
                have hnn := HN.out
                rcases HOS.out.rows.2 with ⟨h, h2⟩ | ⟨g, cap, cur, hv, _, _, hnc, _⟩
                · simp only [Value.slice.injEq] at h; omega
                · simp only [Value.slice.injEq] at hv; omega
              obtain rfl : k = n := by omega
              clear hown hnx hlt hk
              go_wp2_with fail
              go_ret
              first | exact ⟨_, ss, rfl, HOSF.out, by rw [SM.out, HST.out], BF.out⟩ | exact ⟨_, rfl, ss, HOSF.out, by rw [SM.out, HST.out], BF.out⟩
        · obtain ⟨p, rfl⟩ : ∃ p, k = p + 1 := ⟨k - 1, by omega⟩
          obtain rfl : z = (p : Int) := by omega
          have p0 : (0 : Int) ≤ (p : Int) := by omega
          have pn : (p : Int) < (n : Int) := by omega
          have PN := hid (show p < n by omega)
          obtain ⟨⟨rl, fv, l, x, y⟩, hsp⟩ := get_some (show p < ss.length by rw [HN.out]; exact PN.out)
          have OFP := hid (OF.out p _ hsp)
          have SP := hid (SAT.out p _ hsp)
          obtain ⟨ob, ooff, rfl, hod⟩ := OC.out p _ hsp
          obtain ⟨e0, e1, e2, e3⟩ := hod wr (by rw [HUB.out]; exact hnx)
          simp only at e0 e1 e2 e3 OFP
          unfold toS at SP
          simp only at SP
          have HOD := hid hod
          simp only at HOD
          have L2 := hid (show l.length ≤ 2 from by
            have h := SP.out
            rw [← HST.out, List.getElem?_map] at h
            obtain ⟨s', hs', e'⟩ := Option.map_eq_some_iff.1 h
            have := H2.out s' (List.mem_of_getElem? hs')
            unfold toS at e'
            simp only [Prod.mk.injEq] at e'
            rw [e'.2.1] at this
            exact this)
          obtain ⟨fo, fcap, rfl, -, hfc⟩ := (RdE.of_owns OFP.out (by have := L2.out; omega)).split
          have FC := hid hfc
          have hcell : wr.cell? ⟨ub, p, none⟩ = some (.bool (usedB st (p + 1) p)) := by rw [hown.cellAt p (by have := PN.out; omega), rowB_at _ PN.out]
          have hfz : wr.frozen? ⟨ub, p, none⟩ = false := hown.frozenAt _
          have HO := hid hown
          have NX := hid hnx
          have HCS : wr.cell? ⟨ub, p, none⟩ = some (.bool true) ∨ wr.cell? ⟨ub, p, none⟩ = some (.bool false) ∧ ((p : Int) == (n : Int) - 1) = true := by
            by_cases he : p = st.length - 1
            · right
              rw [SLN.out] at he
              have hpn : p + 1 = n := by have := PN.out; omega
              have := usedB_start (st := st) (k := p) (by rw [SLN.out]; exact PN.out)
              rw [SLN.out, ← hpn] at this
              rw [this] at hcell
              exact ⟨hcell, by rw [beq_iff_eq]; omega⟩
            · left
              rw [usedB_self HU.out (by rw [SLN.out]; exact PN.out) he] at hcell
              exact hcell
          clear hcell hown hnx hsp hod hk hz hk0 hfc
          have hl2 : (l.length : Int) ≤ 2 := by have := L2.out; omega
          rcases HCS with hcu | ⟨hcu, hpe⟩
          all_goals
            go_upto_region 13 with fail
            have ST := (HO.out.stored p (.bool true)).1
            rw [rowB_set] at ST
            have O2 := hid (show (wr.setCell ⟨ub, p, none⟩ (.bool true)).ownsRow ub 4 1 (.slice (some ⟨ub, 0, none⟩) n n) n (rowB n (usedP st p [])) by
              rw [rowB_congr (g := fun x => usedB st (p + 1) x || decide (x = p)) (fun x _ => by unfold usedP; simp [Bool.or_comm, eq_comm])]
              exact ST)
            have B2 := hid (NX.out.setCell (p := ⟨ub, p, none⟩) (Nat.le_refl _) (.bool true))
            generalize wr.setCell ⟨ub, p, none⟩ (.bool true) = w2 at *
            clear ST hcu hfz e0 e1 e2 e3
            try clear hpe
            obtain ⟨e0, e1, e2, e3⟩ := HOD.out w2 (by rw [HUB.out]; exact B2.out)
            go_wp2_with fail
            refine (drefers_any rl fo l.length fcap x y w2).mono ?_
            rintro e w3 ⟨rfl, hb3⟩
            have B3 := hid (B2.out.trans (hb3.mono (by rw [← HUB.out]; exact B2.out.size)))
            have O3 := hid (own_below O2.out hb3)
            clear hb3 e0 e1 e2 e3
            obtain ⟨e0, e1, e2, e3⟩ := HOD.out w3 (by rw [HUB.out]; exact B3.out)
            rcases hrb : (rl == 3 || rl == 4) with _ | _
            · have O4 := hid (show w3.ownsRow ub 4 1 (.slice (some ⟨ub, 0, none⟩) n n) n (rowB n (usedB st p)) by
                rw [← rowB_congr (f := usedP st p []) (fun x _ => usedP_none SP.out hrb x)]
                exact O3.out)
              clear hrb e0 e1 e2 e3
              go_wp2_with fail
              go_roundw
              case rel => exact ⟨p, (p : Int) - 1, by have := PN.out; omega, rfl, by first | rfl | go_num, O4.out, B3.out⟩
              case measure => simp [intOf] <;> omega
            · have HRB := hid (show refB ((rl, l, (x, y)) : Stp) = true from hrb)
              clear hrb
              go_wp2_with fail
              go_loopw [67] (fun x wr => ∃ q : Nat, q ≤ l.length ∧ x = .int .i64 (q : Int) ∧ wr.ownsRow ub 4 1 (.slice (some ⟨ub, 0, none⟩) n n) n (rowB n (usedP st p (l.take q))) ∧ Below ub wb wr) (fun x _ => l.length - (intOf x).toNat)
              case atStart => exact ⟨0, Nat.zero_le _, rfl, by simpa using O3.out, B3.out⟩
              case round =>
                obtain ⟨q, hq, rfl, hown, hnx⟩ := hrel
                have q0 : (0 : Int) ≤ (q : Int) := by omega
                have q2 : (q : Int) ≤ 2 := by have := L2.out; omega
                by_cases hlq : q < l.length
                · have hlqI : (q : Int) < (l.length : Int) := by omega
                  obtain ⟨j, hj⟩ := get_some hlq
                  obtain ⟨fb, foff, rfl, hfd⟩ := FC.out q j hj
                  have ej := hfd wr (by rw [HUB.out]; exact hnx)
                  unfold encI at ej
                  have HJ := HLT0.out p _ SP.out HRB.out j (List.mem_of_getElem? hj)
                  have j0 : (0 : Int) ≤ (j : Int) := by omega
                  have d1 : decide ((j : Int) < 0) = false := by rw [decide_eq_false_iff_not]; omega
                  have d2 : decide ((j : Int) ≥ (p : Int)) = false := by rw [decide_eq_false_iff_not]; omega
                  have d3 : ¬ (j : Int) < 0 := by omega
                  have d4 : ¬ (p : Int) ≤ (j : Int) := by omega
                  have jn : (j : Int) < (n : Int) := by have := PN.out; omega
                  have hcj : wr.cell? ⟨ub, j, none⟩ = some (.bool (usedP st p (l.take q) j)) := by rw [hown.cellAt j (by have := PN.out; omega), rowB_at _ (by have := PN.out; omega)]
                  have hcp : wr.cell? ⟨ub, p, none⟩ = some (.bool true) := by
                    rw [hown.cellAt p (by have := PN.out; omega), rowB_at _ PN.out]
                    unfold usedP
                    simp
                  have hfz : wr.frozen? ⟨ub, j, none⟩ = false := hown.frozenAt _
                  have UN := hid (usedP_next st p hj)
                  have HO4 := hid hown
                  have NX4 := hid hnx
                  have HLQ := hid hlq
                  clear hj hfd hown hnx hlq HJ
                  rcases hup : usedP st p (l.take q) j with _ | _
                  all_goals
                    rw [hup] at hcj
                    clear hup
                    go_upto_region 20 with fail
                    have ST := (HO4.out.stored j (.bool true)).1
                    rw [rowB_set] at ST
                    have O5 := hid (show (wr.setCell ⟨ub, j, none⟩ (.bool true)).ownsRow ub 4 1 (.slice (some ⟨ub, 0, none⟩) n n) n (rowB n (usedP st p (l.take (q + 1)))) by
                      rw [rowB_congr (g := fun x => usedP st p (l.take q) x || decide (x = j)) (fun x _ => UN.out x)]
                      exact ST)
                    have B5 := hid (NX4.out.setCell (p := ⟨ub, j, none⟩) (Nat.le_refl _) (.bool true))
                    generalize wr.setCell ⟨ub, j, none⟩ (.bool true) = w5 at *
                    clear ST hcj hcp hfz ej
                    go_wp2_with fail
                    go_roundw
                    case rel => exact ⟨q + 1, by have := HLQ.out; omega, by go_num, O5.out, B5.out⟩
                    case measure => have := HLQ.out; simp [intOf]; omega
                · have hlqI : ¬ (q : Int) < (l.length : Int) := by omega
                  have O4 := hid (show wr.ownsRow ub 4 1 (.slice (some ⟨ub, 0, none⟩) n n) n (rowB n (usedB st p)) by
                    rw [← rowB_congr (f := usedP st p l) (fun x _ => usedP_end SP.out HRB.out x)]
                    rw [List.take_of_length_le (by omega)] at hown
                    exact hown)
                  have NX4 := hid hnx
                  clear hown hnx hlq
                  go_wp2_with fail
                  go_roundw
                  case rel => exact ⟨p, (p : Int) - 1, by have := PN.out; omega, rfl, by first | rfl | go_num, O4.out, NX4.out⟩
                  case measure => simp [intOf] <;> omega

end Go.Proofs.YtcfcmalaabmceaaDoor
