/- Texts that belong together, in one file. -/
import Derived.Test.YtgahpgmagfngfaaGreatDoorGSort
import Derived.Test.YtgahpgmagfngfaaGreatDoorGPlain
import Derived.Test.YtgahpgmagfngfaaGreatDoorGMid
import Derived.Test.YtgahpgmagfngfaaGreatDoorGOrd
/- Plain laws of the merged list: one dependency for each left side, in order. -/
namespace Go.Proofs.YtgahpgmagfngfaaGreatDoor

def orStep (s : S) (acc : S) (x : F) : S := if x.1 = s then acc ||| x.2 else acc
def orOf (l : List F) (s : S) : S := l.foldl (orStep s) 0#32
theorem orOf_snoc (l : List F) (x : F) (s : S) : orOf (l ++ [x]) s = if x.1 = s then orOf l s ||| x.2 else orOf l s := by unfold orOf; rw [List.foldl_append]; rfl
theorem orOf_next {l : List F} {k : Nat} {x : F} (h : l[k]? = some x) (s : S) : orOf (l.take (k + 1)) s = if x.1 = s then orOf (l.take k) s ||| x.2 else orOf (l.take k) s := by rw [take_next h, orOf_snoc]
/-- The merged list. -/
def mergeF (l : List F) : List F := (ordS (l.map (·.1))).map fun s => (s, orOf l s)

end Go.Proofs.YtgahpgmagfngfaaGreatDoor


/- The walk of cover's Merge. -/
namespace Go.Proofs.YtgahpgmagfngfaaGreatDoor
open Go.RowKit

/-- Elements that are sets. -/
def setElems (P : Program) (e : TypeId) (he : P.underlying e = some (.int .u32)) : Elems P e S where
  el := enc
  dl x := .lit (.int .u32 (iv x))
  to x := plainElem_int he (wf_iv x)
  inv v x ps h := by
    obtain ⟨a, rfl, hz, _⟩ := plainElem_int_inv he h
    simp at hz
    rw [enc_eq, hz.1]
theorem undSet : Tryz.prog.underlying 55 = some (.int .u32) := by kernel_rfl
theorem undMapS : Tryz.prog.underlying 159 = some (.map 55 55) := by kernel_rfl
theorem zeroS (w : World) : (zeroValue 55).run Tryz.prog w = .ok (enc 0#32) w := by kernel_rfl
theorem own_grown {w w' : World} {B b : Nat} {e : TypeId} {size n : Nat} {v : Value} {xs : List Value} (h : w.ownsRow B e size v n xs) (hg : w.grownBy w' (some b)) (hb : b < B) : w'.ownsRow B e size v n xs := by
  refine ⟨h.1, ?_⟩
  rcases h.2 with h' | ⟨g, cap, cur, hv, hgB, hc, rest⟩
  · exact .inl h'
  · exact .inr ⟨g, cap, cur, hv, hgB, (hg.block g (Array.getElem?_eq_some_iff.1 hc).1 (by intro e; cases e; omega)).trans hc, rest⟩
abbrev OwnS := OwnM (setElems Tryz.prog 55 undSet) 0#32 55

theorem orOf_upd {l : List F} {k : Nat} {x : F} (h : l[k]? = some x) (s : S) : upd (orOf (l.take k)) x.1 (orOf (l.take k) x.1 ||| x.2) s = orOf (l.take (k + 1)) s := by
  rw [orOf_next h]
  by_cases e : s = x.1
  · subst e; rw [upd_same, if_pos rfl]
  · rw [upd_other _ _ e, if_neg (Ne.symm e)]

set_option maxHeartbeats 1600000 in
set_option maxRecDepth 100000 in
theorem merge_any (fs : List F) (v : Value) (w : World) (hv : RdF w v fs) (hl : fs.length < 1099511627776) :
    Calls Tryz.prog 54 #[v] w fun e w' => ∃ v', e = .returned v' ∧ w'.ownsRow w.heap.size 57 2 v' (mergeF fs).length ((mergeF fs).flatMap cF) ∧ Below w.heap.size w w' := by
  have hmm := @run_makeMap Tryz.prog
  obtain ⟨ao, cap, rfl, -, hc⟩ := hv.split
  have FC := hid hc
  have hm0 := OwnM.made (E := setElems Tryz.prog 55 undSet) (z := 0#32) (k := 55) (w := w)
  have AO := hid (fun (xs : List S) (u : Value) (W : World) (h : RdE enc W u xs) (hh : xs.length < 17592186044416) => aorder_any xs u W h hh)
  clear hv hc
  go_enter Tryz.func54, Tryz.ntmps54
  go_wp2_with fail
  go_loopw [4, 13] (fun u i wr => ∃ k : Nat, k ≤ fs.length ∧ i = .int .i64 k ∧ OwnS wr w.heap.size k (orOf (fs.take k)) ∧ wr.ownsRow (w.heap.size + 1) 55 1 u ((fs.take k).map (·.1)).length (((fs.take k).map (·.1)).map enc) ∧ Below w.heap.size w wr ∧ w.heap.size + 1 ≤ wr.heap.size) (fun _ i _ => fs.length - (intOf i).toNat)
  case atStart => exact ⟨0, Nat.zero_le _, rfl, hm0, World.ownsRow_nil _ _ _ _, below_alloc _ _, by simp⟩
  case round =>
    obtain ⟨k, hk, rfl, hm, hown, hnx, hsz⟩ := hrel
    have hsz0 := hnx.size
    by_cases hlt : k < fs.length
    · obtain ⟨f, hf⟩ := get_some hlt
      obtain ⟨b, off, rfl, hfc⟩ := FC.out k f hf
      obtain ⟨e0, e1⟩ := hfc wr hnx
      have U := hid (orOf_upd hf)
      have N := hid (show (fs.take (k + 1)).map (·.1) = (fs.take k).map (·.1) ++ [f.1] by rw [take_next hf, List.map_append]; rfl)
      have hxl : ((fs.take k).map (·.1)).length ≤ k := by simp; omega
      clear hfc hf
      generalize orOf (fs.take k) = g at *
      generalize (fs.take k).map (·.1) = xs at *
      have hb1 := below_alloc wr (.cells #[.int .u32 (iv f.1), .int .u32 (iv f.2)] 57)
      have hm1 := hm.below hb1
      have hown1 := own_below hown hb1
      have hnx1 := hnx.trans (hb1.mono hsz0)
      have hc0 : (wr.alloc (.cells #[.int .u32 (iv f.1), .int .u32 (iv f.2)] 57)).cell? ⟨wr.heap.size, 0, none⟩ = some (.int .u32 (iv f.1)) := by simp
      have HC := hid hc0
      have HM := hid hm1
      have HO := hid hown1
      have HN := hid hnx1
      clear hm hown hnx hb1 hm1 hown1 hnx1 hc0
      go_wp2_with (first | (at_lookup; refine wpList_mlook (E := setElems Tryz.prog 55 undSet) (z := 0#32) (f := g) (n := k) (b := w.heap.size) (k := 55) rfl _ _ 159 rfl undSet undMapS (zeroS _) rfl HM.out f.1 rfl ?_; show wpList _ _ _ _ (Act.put _ _ (.int .u32 (iv (g f.1)))) _) | (at_mapUpdate; refine wpList_mput (E := setElems Tryz.prog 55 undSet) rfl _ _ _ 159 rfl undSet undMapS rfl HM.out (by unfold maxLen; omega) f.1 (g f.1 ||| f.2) rfl rfl ?_))
      intro w4 hm4 hg4
      have hm5 := hid (hm4.congr U.out)
      have hown4 := own_grown HO.out hg4 (by omega)
      have hnx4 : Below w.heap.size w w4 := HN.out.grown hg4 HN.out.size (fun j hj => by cases hj; exact Nat.le_refl _)
      have hsz4 := hg4.size
      simp at hsz4
      have hc4 : w4.cell? ⟨wr.heap.size, 0, none⟩ = some (.int .u32 (iv f.1)) := (hg4.cell_far ⟨wr.heap.size, 0, none⟩ (by simp) (by intro e; simp at e; omega)).trans HC.out
      clear hm4 hg4 e0 e1
      go_wp2_with (at_builtin; refine wpList_push rfl _ _ 59 rfl (w.heap.size + 1) 55 (.int .u32 0) 4 undSets infoSet rfl (by decide) enc (fun _ => rfl) _ xs rfl (hown4.alloc _) ⟨w4.heap.size, 0, none⟩ f.1 rfl cell_new (by omega) (by simp; omega) ?_)
      intro v' w5 hown5 hgrow
      have hm6 := hid ((hm5.out.below (below_alloc w4 _)).kept hgrow (fun e => by have := (hown4.lt _ e.symm).1; omega))
      have hb5 := hid (below_push hnx4 hnx4.size (own_mono hown4 (by omega)) hgrow)
      have hs5 := hgrow.size
      simp at hs5
      have ho5 := hid hown5
      clear hgrow hown4 hnx4 hc4 hown5
      go_wp2_with fail
      go_roundw
      case rel => exact ⟨k + 1, by omega, by go_num, hm6.out, by rw [N.out]; simpa using ho5.out, hb5.out, by omega⟩
      case measure => simp [intOf]; omega
    · rw [take_all hlt] at hm hown
      have OS := hid (fun (ys : List S) (h : IsOrd ys (· ∈ fs.map (·.1))) => ordS_of h fun _ => Iff.rfl)
      have hxl : (fs.map (·.1)).length ≤ fs.length := by simp
      have MG := hid (show mergeF fs = (ordS (fs.map (·.1))).map fun s => (s, orOf fs s) from rfl)
      generalize fs.map (·.1) = xs at *
      have R := hid (RdE.of_owns hown (by omega))
      have HM := hid hm
      clear hm hown
      go_wp2_with fail
      refine (AO.out xs _ wr R.out (by omega)).mono ?_
      rintro e w2 ⟨v2, ys, rfl, ho2, hord, hyl, hb2⟩
      have hys := OS.out ys hord
      have M2 := hid (HM.out.below hb2)
      have B2 := hid (hnx.trans (hb2.mono hsz0))
      have R2 := hid (RdE.of_owns ho2 (by omega))
      have MG2 := hid (MG.out.trans (by rw [← hys]))
      obtain ⟨yo, ycap, rfl, -, hyc⟩ := R2.out.split
      have YC := hid hyc
      clear ho2 hord hb2 hnx hyc hys MG
      generalize orOf fs = h at *
      have hs2 := B2.out.size
      go_wp2_with fail
      go_loopw [7, 33] (fun u i wr => ∃ j : Nat, j ≤ ys.length ∧ i = .int .i64 j ∧ wr.ownsRow w2.heap.size 57 2 u ((ys.take j).map fun s => (s, h s)).length (((ys.take j).map fun s => (s, h s)).flatMap cF) ∧ Below w2.heap.size w2 wr) (fun _ i _ => ys.length - (intOf i).toNat)
      case atStart => exact ⟨0, Nat.zero_le _, rfl, World.ownsRow_nil _ _ _ _, Below.refl _ _⟩
      case round =>
        obtain ⟨j, hj, rfl, hown, hnx⟩ := hrel
        have hsz := hnx.size
        have hll : ((ys.take j).map fun s => (s, h s)).length ≤ j := by simp; omega
        by_cases hjl : j < ys.length
        · obtain ⟨s, hs⟩ := get_some hjl
          obtain ⟨yb, yoff, rfl, hyc⟩ := YC.out j s hs
          have ec : wr.cell? ⟨yb, yoff + j, none⟩ = some (.int .u32 (iv s)) := hyc wr hnx
          have N := hid (show (ys.take (j + 1)).map (fun s => (s, h s)) = (ys.take j).map (fun s => (s, h s)) ++ [(s, h s)] by rw [take_next hs, List.map_append]; rfl)
          have M3 := hid (M2.out.below hnx)
          clear hyc hs
          generalize (ys.take j).map (fun s => (s, h s)) = out at *
          go_wp2_with (first | (at_lookup; refine wpList_mlook (E := setElems Tryz.prog 55 undSet) (z := 0#32) (f := h) (n := k) (b := w.heap.size) (k := 55) rfl _ _ 159 rfl undSet undMapS (zeroS _) rfl M3.out s rfl ?_; show wpList _ _ _ _ (Act.put _ _ (.int .u32 (iv (h s)))) _) | (at_builtin; refine wpList_pushC rfl _ _ 58 rfl w2.heap.size 57 (.agg #[.int .u32 0, .int .u32 0]) 2 8 undFDs infoFD rfl (by decide) (by decide) cF cF_length cF_one _ out rfl (hown.alloc _) ⟨wr.heap.size, 0, none⟩ (s, h s) rfl (cells_newF _ (s, h s)) (by omega) (by simp; omega) ?_))
          intro v' w4 hown' hgrow
          have hb4 : Below w2.heap.size w2 w4 := below_push hnx hsz hown hgrow
          clear hgrow hown hnx ec
          go_wp2_with fail
          go_roundw
          case rel => exact ⟨j + 1, by omega, by go_num, by rw [N.out]; simpa using hown', hb4⟩
          case measure => simp [intOf]; omega
        · rw [take_all hjl, ← MG2.out] at hown
          have OO := hid (own_mono hown hs2)
          have BB := hid (B2.out.trans (hnx.mono hs2))
          clear hown hnx
          go_wp2_with fail
          go_ret
          exact ⟨_, rfl, OO.out, BB.out⟩

end Go.Proofs.YtgahpgmagfngfaaGreatDoor


/- The walks of cover's Minimal, Canonical, Redundant, Extraneous and IsMinimal. -/
namespace Go.Proofs.YtgahpgmagfngfaaGreatDoor
open Go.RowKit

theorem minF_length (fs : List F) : (minF fs).length ≤ 32 * fs.length := by
  have h1 := dropS_length _ (onceF (trimF (splitF fs) (splitF fs).length)) 0 (Nat.le_refl _)
  have h2 := onceF_length (trimF (splitF fs) (splitF fs).length)
  have h3 := trimF_length (splitF fs) (splitF fs).length
  have h4 : (splitF fs).length ≤ 32 * fs.length := Nat.le_trans (onceF_length _) (flatSplit_length _)
  unfold minF; omega
theorem valid_len {n : Int} {fs : List F} (h : validF n fs = 0) : fs.length ≤ 64 := by
  unfold validF at h
  by_cases h1 : n < 0 ∨ 16 < n
  · rw [if_pos h1] at h; cases h
  · rw [if_neg h1] at h
    by_cases h2 : 64 < fs.length
    · rw [if_pos h2] at h; cases h
    · omega
/-- What Minimal gives: the minimal cover, or nothing. -/
noncomputable def resM (n : Int) (fs : List F) : List F := if validF n fs = 0 then minF fs else []
theorem resM_length (n : Int) (fs : List F) : (resM n fs).length ≤ 2048 := by
  unfold resM; split
  · rename_i h; have := minF_length fs; have := valid_len h; omega
  · simp

theorem cminimal_any (n : Int) (fs : List F) (v : Value) (w : World) (hT : Tab w) (hv : RdF w v fs) :
    Calls Tryz.prog 53 #[.int .i64 n, v] w fun e w' => ∃ v', e = .returned (.tuple #[v', .int .i64 (validF n fs)]) ∧ w'.ownsRow w.heap.size 57 2 v' (resM n fs).length ((resM n fs).flatMap cF) ∧ Below w.heap.size w w' := by
  have V := hid (validF_any n fs v w hv)
  cases hq : (validF n fs != 0) with
  | true =>
    have hr : resM n fs = [] := by unfold resM; rw [if_neg (by simpa using hq)]
    rw [hr]
    obtain ⟨ao, cap, rfl⟩ := hv.form
    clear hv hr
    generalize validF n fs = r at *
    go_enter Tryz.func53, Tryz.ntmps53
    go_wp2_with fail
    refine (V.out).mono ?_
    rintro e w1 ⟨rfl, hb1⟩
    have B1 := hid hb1
    clear hb1
    go_wp2_with fail
    go_ret2
    exact ⟨_, rfl, World.ownsRow_nil _ _ _ _, B1.out⟩
  | false =>
    have hz : validF n fs = 0 := by simpa using hq
    have hr : resM n fs = minF fs := by unfold resM; rw [if_pos hz]
    rw [hr, hz]
    rw [hz] at V
    have hlen := valid_len hz
    have M := hid (fun (W : World) (h : Below w.heap.size w W) => minimal_any fs v W (hT.below h) (hv.below h) (by omega))
    obtain ⟨ao, cap, rfl⟩ := hv.form
    clear hv hr hz hq
    go_enter Tryz.func53, Tryz.ntmps53
    go_wp2_with fail
    refine (V.out).mono ?_
    rintro e w1 ⟨rfl, hb1⟩
    have B1 := hid hb1
    clear hb1
    go_wp2_with fail
    refine (M.out _ B1.out).mono ?_
    rintro e w2 ⟨v2, rfl, ho2, hb2⟩
    have B2 := hid (B1.out.trans (hb2.mono B1.out.size))
    have O2 := hid (own_mono ho2 B1.out.size)
    clear ho2 hb2
    go_wp2_with fail
    go_ret2
    exact ⟨_, rfl, O2.out, B2.out⟩

theorem canonical_any (n : Int) (fs : List F) (v : Value) (w : World) (hT : Tab w) (hv : RdF w v fs) :
    Calls Tryz.prog 24 #[.int .i64 n, v] w fun e w' => ∃ v', e = .returned (.tuple #[v', .int .i64 (validF n fs)]) ∧ w'.ownsRow w.heap.size 57 2 v' (mergeF (resM n fs)).length ((mergeF (resM n fs)).flatMap cF) ∧ Below w.heap.size w w' := by
  have M := hid (cminimal_any n fs v w hT hv)
  have ML := resM_length n fs
  have MG := hid (fun (u : Value) (W : World) (h : RdF W u (resM n fs)) => merge_any (resM n fs) u W h (by omega))
  obtain ⟨ao, cap, rfl⟩ := hv.form
  clear hv hT
  generalize resM n fs = gs at *
  generalize validF n fs = r at *
  go_enter Tryz.func24, Tryz.ntmps24
  go_wp2_with fail
  refine M.out.mono ?_
  rintro e w1 ⟨v1, rfl, ho1, hb1⟩
  have B1 := hid hb1
  have R1 := hid (RdC.of_owns cF_length ho1 (by omega))
  clear ho1 hb1
  go_wp2_with fail
  refine (MG.out _ _ R1.out).mono ?_
  rintro e w2 ⟨v2, rfl, ho2, hb2⟩
  have B2 := hid (B1.out.trans (hb2.mono B1.out.size))
  have O2 := hid (own_mono ho2 B1.out.size)
  clear ho2 hb2
  go_wp2_with fail
  go_ret2
  exact ⟨_, rfl, O2.out, B2.out⟩




end Go.Proofs.YtgahpgmagfngfaaGreatDoor


/- The walk of cover's IsMinimal. -/
namespace Go.Proofs.YtgahpgmagfngfaaGreatDoor
open Go.RowKit



end Go.Proofs.YtgahpgmagfngfaaGreatDoor


/- The walks of the reference of chapter 10. -/
namespace Go.Proofs.YtgahpgmagfngfaaGreatDoor
open Go.RowKit





end Go.Proofs.YtgahpgmagfngfaaGreatDoor

namespace Go.Proofs.YtgahpgmagfngfaaGreatDoor
open Go.RowKit Go.Shelf





end Go.Proofs.YtgahpgmagfngfaaGreatDoor

namespace Go.Proofs.YtgahpgmagfngfaaGreatDoor
open Go.RowKit




end Go.Proofs.YtgahpgmagfngfaaGreatDoor

namespace Go.Proofs.YtgahpgmagfngfaaGreatDoor
open Go.RowKit




end Go.Proofs.YtgahpgmagfngfaaGreatDoor

namespace Go.Proofs.YtgahpgmagfngfaaGreatDoor
open Go.RowKit

attribute [local irreducible] Go.wpQuiet

end Go.Proofs.YtgahpgmagfngfaaGreatDoor

namespace Go.Proofs.YtgahpgmagfngfaaGreatDoor
open Go.RowKit




end Go.Proofs.YtgahpgmagfngfaaGreatDoor

