/- The walk of cover's Merge. -/
import Derived.Test.YtciamnkalmihcaaDoorMergeL
import Derived.Test.YtciamnkalmihcaaDoorGMid
import Derived.Test.YtciamnkalmihcaaDoorMap
namespace Go.Proofs.YtciamnkalmihcaaDoor
open Go.RowKit

/-- Elements that are sets. -/
def setElems (P : Program) (e : TypeId) (he : P.underlying e = some (.int .u32)) : Elems P e S where
  el := enc
  dl x := .lit (.int .u32 (iv x))
  to x := plainElem_int he (wf_iv x)
  inv v x ps h := by
    obtain ⟨a, rfl, hz, _⟩ := plainElem_int_inv he h
    simp at hz
    rw [enc_eq, hz.1]
theorem undSet : Tryd.prog.underlying 25 = some (.int .u32) := by kernel_rfl
theorem undMapS : Tryd.prog.underlying 88 = some (.map 25 25) := by kernel_rfl
theorem zeroS (w : World) : (zeroValue 25).run Tryd.prog w = .ok (enc 0#32) w := by kernel_rfl
theorem own_grown {w w' : World} {B b : Nat} {e : TypeId} {size n : Nat} {v : Value} {xs : List Value} (h : w.ownsRow B e size v n xs) (hg : w.grownBy w' (some b)) (hb : b < B) : w'.ownsRow B e size v n xs := by
  refine ⟨h.1, ?_⟩
  rcases h.2 with h' | ⟨g, cap, cur, hv, hgB, hc, rest⟩
  · exact .inl h'
  · exact .inr ⟨g, cap, cur, hv, hgB, (hg.block g (Array.getElem?_eq_some_iff.1 hc).1 (by intro e; cases e; omega)).trans hc, rest⟩
abbrev OwnS := OwnM (setElems Tryd.prog 25 undSet) 0#32 25

theorem orOf_upd {l : List F} {k : Nat} {x : F} (h : l[k]? = some x) (s : S) : upd (orOf (l.take k)) x.1 (orOf (l.take k) x.1 ||| x.2) s = orOf (l.take (k + 1)) s := by
  rw [orOf_next h]
  by_cases e : s = x.1
  · subst e; rw [upd_same, if_pos rfl]
  · rw [upd_other _ _ e, if_neg (Ne.symm e)]

set_option maxHeartbeats 1600000 in
set_option maxRecDepth 100000 in
theorem merge_any (fs : List F) (v : Value) (w : World) (hv : RdF w v fs) (hl : fs.length < 1099511627776) :
    Calls Tryd.prog 44 #[v] w fun e w' => ∃ v', e = .returned v' ∧ w'.ownsRow w.heap.size 34 2 v' (mergeF fs).length ((mergeF fs).flatMap cF) ∧ Below w.heap.size w w' := by
  have hmm := @run_makeMap Tryd.prog
  obtain ⟨ao, cap, rfl, -, hc⟩ := hv.split
  have FC := hid hc
  have hm0 := OwnM.made (E := setElems Tryd.prog 25 undSet) (z := 0#32) (k := 25) (w := w)
  have AO := hid (fun (xs : List S) (u : Value) (W : World) (h : RdE enc W u xs) (hh : xs.length < 17592186044416) => aorder_any xs u W h hh)
  clear hv hc
  go_enter Tryd.func44, Tryd.ntmps44
  go_wp2_with fail
  go_loopw [4, 13] (fun u i wr => ∃ k : Nat, k ≤ fs.length ∧ i = .int .i64 k ∧ OwnS wr w.heap.size k (orOf (fs.take k)) ∧ wr.ownsRow (w.heap.size + 1) 25 1 u ((fs.take k).map (·.1)).length (((fs.take k).map (·.1)).map enc) ∧ Below w.heap.size w wr ∧ w.heap.size + 1 ≤ wr.heap.size) (fun _ i _ => fs.length - (intOf i).toNat)
  case atStart => exact ⟨0, Nat.zero_le _, rfl, hm0, World.ownsRow_nil _ _ _ _, below_alloc _ _, by simp⟩
  case round =>
    obtain ⟨k, hk, rfl, hm, hown, hnx, hsz⟩ := hrel
    have hsz0 := hnx.size
    by_cases hlt : k < fs.length
    · obtain ⟨f, hf⟩ := get_some hlt
      obtain ⟨b, off, rfl, hfc⟩ := FC.out k f hf
      obtain ⟨e0, e1⟩ := hfc wr hnx
      have U := hid (orOf_upd hf)
      have N := hid (show (fs.take (k + 1)).map (·.1) = (fs.take k).map (·.1) ++ [f.1] by rw [take_next hf, List.map_append]; rfl)
      have hxl : ((fs.take k).map (·.1)).length ≤ k := by simp; omega
      clear hfc hf
      generalize orOf (fs.take k) = g at *
      generalize (fs.take k).map (·.1) = xs at *
      have hb1 := below_alloc wr (.cells #[.int .u32 (iv f.1), .int .u32 (iv f.2)] 34)
      have hm1 := hm.below hb1
      have hown1 := own_below hown hb1
      have hnx1 := hnx.trans (hb1.mono hsz0)
      have hc0 : (wr.alloc (.cells #[.int .u32 (iv f.1), .int .u32 (iv f.2)] 34)).cell? ⟨wr.heap.size, 0, none⟩ = some (.int .u32 (iv f.1)) := by simp
      have HC := hid hc0
      have HM := hid hm1
      have HO := hid hown1
      have HN := hid hnx1
      clear hm hown hnx hb1 hm1 hown1 hnx1 hc0
      go_wp2_with (first | (at_lookup; refine wpList_mlook (E := setElems Tryd.prog 25 undSet) (z := 0#32) (f := g) (n := k) (b := w.heap.size) (k := 25) rfl _ _ 88 rfl undSet undMapS (zeroS _) rfl HM.out f.1 rfl ?_; show wpList _ _ _ _ (Act.put _ _ (.int .u32 (iv (g f.1)))) _) | (at_mapUpdate; refine wpList_mput (E := setElems Tryd.prog 25 undSet) rfl _ _ _ 88 rfl undSet undMapS rfl HM.out (by unfold maxLen; omega) f.1 (g f.1 ||| f.2) rfl rfl ?_))
      intro w4 hm4 hg4
      have hm5 := hid (hm4.congr U.out)
      have hown4 := own_grown HO.out hg4 (by omega)
      have hnx4 : Below w.heap.size w w4 := HN.out.grown hg4 HN.out.size (fun j hj => by cases hj; exact Nat.le_refl _)
      have hsz4 := hg4.size
      simp at hsz4
      have hc4 : w4.cell? ⟨wr.heap.size, 0, none⟩ = some (.int .u32 (iv f.1)) := (hg4.cell_far ⟨wr.heap.size, 0, none⟩ (by simp) (by intro e; simp at e; omega)).trans HC.out
      clear hm4 hg4 e0 e1
      go_wp2_with (at_builtin; refine wpList_push rfl _ _ 52 rfl (w.heap.size + 1) 25 (.int .u32 0) 4 undSets infoSet rfl (by decide) enc (fun _ => rfl) _ xs rfl (hown4.alloc _) ⟨w4.heap.size, 0, none⟩ f.1 rfl cell_new (by omega) (by simp; omega) ?_)
      intro v' w5 hown5 hgrow
      have hm6 := hid ((hm5.out.below (below_alloc w4 _)).kept hgrow (fun e => by have := (hown4.lt _ e.symm).1; omega))
      have hb5 := hid (below_push hnx4 hnx4.size (own_mono hown4 (by omega)) hgrow)
      have hs5 := hgrow.size
      simp at hs5
      have ho5 := hid hown5
      clear hgrow hown4 hnx4 hc4 hown5
      go_wp2_with fail
      go_roundw
      case rel => exact ⟨k + 1, by omega, by go_num, hm6.out, by rw [N.out]; simpa using ho5.out, hb5.out, by omega⟩
      case measure => simp [intOf]; omega
    · rw [take_all hlt] at hm hown
      have OS := hid (fun (ys : List S) (h : IsOrd ys (· ∈ fs.map (·.1))) => ordS_of h fun _ => Iff.rfl)
      have hxl : (fs.map (·.1)).length ≤ fs.length := by simp
      have MG := hid (show mergeF fs = (ordS (fs.map (·.1))).map fun s => (s, orOf fs s) from rfl)
      generalize fs.map (·.1) = xs at *
      have R := hid (RdE.of_owns hown (by omega))
      have HM := hid hm
      clear hm hown
      go_wp2_with fail
      refine (AO.out xs _ wr R.out (by omega)).mono ?_
      rintro e w2 ⟨v2, ys, rfl, ho2, hord, hyl, hb2⟩
      have hys := OS.out ys hord
      have M2 := hid (HM.out.below hb2)
      have B2 := hid (hnx.trans (hb2.mono hsz0))
      have R2 := hid (RdE.of_owns ho2 (by omega))
      have MG2 := hid (MG.out.trans (by rw [← hys]))
      obtain ⟨yo, ycap, rfl, -, hyc⟩ := R2.out.split
      have YC := hid hyc
      clear ho2 hord hb2 hnx hyc hys MG
      generalize orOf fs = h at *
      have hs2 := B2.out.size
      go_wp2_with fail
      go_loopw [7, 33] (fun u i wr => ∃ j : Nat, j ≤ ys.length ∧ i = .int .i64 j ∧ wr.ownsRow w2.heap.size 34 2 u ((ys.take j).map fun s => (s, h s)).length (((ys.take j).map fun s => (s, h s)).flatMap cF) ∧ Below w2.heap.size w2 wr) (fun _ i _ => ys.length - (intOf i).toNat)
      case atStart => exact ⟨0, Nat.zero_le _, rfl, World.ownsRow_nil _ _ _ _, Below.refl _ _⟩
      case round =>
        obtain ⟨j, hj, rfl, hown, hnx⟩ := hrel
        have hsz := hnx.size
        have hll : ((ys.take j).map fun s => (s, h s)).length ≤ j := by simp; omega
        by_cases hjl : j < ys.length
        · obtain ⟨s, hs⟩ := get_some hjl
          obtain ⟨yb, yoff, rfl, hyc⟩ := YC.out j s hs
          have ec : wr.cell? ⟨yb, yoff + j, none⟩ = some (.int .u32 (iv s)) := hyc wr hnx
          have N := hid (show (ys.take (j + 1)).map (fun s => (s, h s)) = (ys.take j).map (fun s => (s, h s)) ++ [(s, h s)] by rw [take_next hs, List.map_append]; rfl)
          have M3 := hid (M2.out.below hnx)
          clear hyc hs
          generalize (ys.take j).map (fun s => (s, h s)) = out at *
          go_wp2_with (first | (at_lookup; refine wpList_mlook (E := setElems Tryd.prog 25 undSet) (z := 0#32) (f := h) (n := k) (b := w.heap.size) (k := 25) rfl _ _ 88 rfl undSet undMapS (zeroS _) rfl M3.out s rfl ?_; show wpList _ _ _ _ (Act.put _ _ (.int .u32 (iv (h s)))) _) | (at_builtin; refine wpList_pushC rfl _ _ 27 rfl w2.heap.size 34 (.agg #[.int .u32 0, .int .u32 0]) 2 8 undFDs infoFD rfl (by decide) (by decide) cF cF_length cF_one _ out rfl (hown.alloc _) ⟨wr.heap.size, 0, none⟩ (s, h s) rfl (cells_newF _ (s, h s)) (by omega) (by simp; omega) ?_))
          intro v' w4 hown' hgrow
          have hb4 : Below w2.heap.size w2 w4 := below_push hnx hsz hown hgrow
          clear hgrow hown hnx ec
          go_wp2_with fail
          go_roundw
          case rel => exact ⟨j + 1, by omega, by go_num, by rw [N.out]; simpa using hown', hb4⟩
          case measure => simp [intOf]; omega
        · rw [take_all hjl, ← MG2.out] at hown
          have OO := hid (own_mono hown hs2)
          have BB := hid (B2.out.trans (hnx.mono hs2))
          clear hown hnx
          go_wp2_with fail
          go_ret
          exact ⟨_, rfl, OO.out, BB.out⟩

end Go.Proofs.YtciamnkalmihcaaDoor
