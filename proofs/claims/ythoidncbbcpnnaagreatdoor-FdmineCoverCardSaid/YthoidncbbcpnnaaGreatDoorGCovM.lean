/- Texts that belong together, in one file. -/
import Derived.Test.YthoidncbbcpnnaaGreatDoorGSort
import Derived.Test.YthoidncbbcpnnaaGreatDoorGPlain
import Derived.Test.YthoidncbbcpnnaaGreatDoorGMid
import Derived.Test.YthoidncbbcpnnaaGreatDoorGOrd
/- Plain laws of the merged list: one dependency for each left side, in order. -/
namespace Go.Proofs.YthoidncbbcpnnaaGreatDoor

def orStep (s : S) (acc : S) (x : F) : S := if x.1 = s then acc ||| x.2 else acc
def orOf (l : List F) (s : S) : S := l.foldl (orStep s) 0#32
theorem orOf_snoc (l : List F) (x : F) (s : S) : orOf (l ++ [x]) s = if x.1 = s then orOf l s ||| x.2 else orOf l s := by unfold orOf; rw [List.foldl_append]; rfl
theorem orOf_next {l : List F} {k : Nat} {x : F} (h : l[k]? = some x) (s : S) : orOf (l.take (k + 1)) s = if x.1 = s then orOf (l.take k) s ||| x.2 else orOf (l.take k) s := by rw [take_next h, orOf_snoc]
theorem orOf_get (l : List F) (s : S) (i : Nat) : (orOf l s).getLsbD i = true ↔ ∃ x ∈ l, x.1 = s ∧ x.2.getLsbD i = true := by
  induction l using snocRec with
  | nil => simp [orOf]
  | snoc l x ih =>
    rw [orOf_snoc]
    by_cases h : x.1 = s
    · rw [if_pos h, BitVec.getLsbD_or, Bool.or_eq_true, ih]
      constructor
      · rintro (⟨y, hy, h1, h2⟩ | h2)
        · exact ⟨y, by simp [hy], h1, h2⟩
        · exact ⟨x, by simp, h, h2⟩
      · rintro ⟨y, hy, h1, h2⟩
        rcases List.mem_append.1 hy with hy | hy
        · exact .inl ⟨y, hy, h1, h2⟩
        · rw [List.mem_singleton] at hy; subst hy; exact .inr h2
    · rw [if_neg h, ih]
      constructor
      · rintro ⟨y, hy, h1, h2⟩; exact ⟨y, by simp [hy], h1, h2⟩
      · rintro ⟨y, hy, h1, h2⟩
        rcases List.mem_append.1 hy with hy | hy
        · exact ⟨y, hy, h1, h2⟩
        · rw [List.mem_singleton] at hy; subst hy; exact absurd h1 h
/-- The merged list. -/
def mergeF (l : List F) : List F := (ordS (l.map (·.1))).map fun s => (s, orOf l s)
theorem mem_mergeF {l : List F} {f : F} : f ∈ mergeF l ↔ (∃ x ∈ l, x.1 = f.1) ∧ f.2 = orOf l f.1 := by
  unfold mergeF
  rw [List.mem_map]
  constructor
  · rintro ⟨s, hs, rfl⟩
    obtain ⟨x, hx, h⟩ := List.mem_map.1 ((ordS_ord _).2 s |>.1 hs)
    exact ⟨⟨x, hx, h⟩, rfl⟩
  · rintro ⟨⟨x, hx, h⟩, h2⟩
    exact ⟨f.1, (ordS_ord _).2 _ |>.2 (List.mem_map.2 ⟨x, hx, h⟩), by rw [← h2]⟩
theorem sub_orOf {l : List F} {x : F} (h : x ∈ l) : sub x.2 (orOf l x.1) := fun i _ hb => (orOf_get l x.1 i).2 ⟨x, h, rfl, hb⟩
theorem orOf_le {l : List F} {s d : S} (h : ∀ x ∈ l, x.1 = s → sub x.2 d) : sub (orOf l s) d := fun i hi hb => by
  obtain ⟨x, hx, h1, h2⟩ := (orOf_get l s i).1 hb
  exact h x hx h1 i hi h2
theorem merge_eqv (l : List F) : Eqv (mergeF l) l := by
  intro d
  constructor
  · intro h x hx hs
    exact sub_trans (sub_orOf hx) (h (x.1, orOf l x.1) (mem_mergeF.2 ⟨⟨x, hx, rfl⟩, rfl⟩) hs)
  · intro h f hf hs
    obtain ⟨⟨x, hx, hxf⟩, h2⟩ := mem_mergeF.1 hf
    rw [h2]
    exact orOf_le fun y hy he => h y hy (by rw [he]; exact hs)

end Go.Proofs.YthoidncbbcpnnaaGreatDoor


/- The walk of cover's Merge. -/
namespace Go.Proofs.YthoidncbbcpnnaaGreatDoor
open Go.RowKit

/-- Elements that are sets. -/
def setElems (P : Program) (e : TypeId) (he : P.underlying e = some (.int .u32)) : Elems P e S where
  el := enc
  dl x := .lit (.int .u32 (iv x))
  to x := plainElem_int he (wf_iv x)
  inv v x ps h := by
    obtain ⟨a, rfl, hz, _⟩ := plainElem_int_inv he h
    simp at hz
    rw [enc_eq, hz.1]
theorem undSet : Tryz.prog.underlying 53 = some (.int .u32) := by kernel_rfl
theorem undMapS : Tryz.prog.underlying 164 = some (.map 53 53) := by kernel_rfl
theorem zeroS (w : World) : (zeroValue 53).run Tryz.prog w = .ok (enc 0#32) w := by kernel_rfl
theorem own_grown {w w' : World} {B b : Nat} {e : TypeId} {size n : Nat} {v : Value} {xs : List Value} (h : w.ownsRow B e size v n xs) (hg : w.grownBy w' (some b)) (hb : b < B) : w'.ownsRow B e size v n xs := by
  refine ⟨h.1, ?_⟩
  rcases h.2 with h' | ⟨g, cap, cur, hv, hgB, hc, rest⟩
  · exact .inl h'
  · exact .inr ⟨g, cap, cur, hv, hgB, (hg.block g (Array.getElem?_eq_some_iff.1 hc).1 (by intro e; cases e; omega)).trans hc, rest⟩
abbrev OwnS := OwnM (setElems Tryz.prog 53 undSet) 0#32 53

theorem orOf_upd {l : List F} {k : Nat} {x : F} (h : l[k]? = some x) (s : S) : upd (orOf (l.take k)) x.1 (orOf (l.take k) x.1 ||| x.2) s = orOf (l.take (k + 1)) s := by
  rw [orOf_next h]
  by_cases e : s = x.1
  · subst e; rw [upd_same, if_pos rfl]
  · rw [upd_other _ _ e, if_neg (Ne.symm e)]

set_option maxHeartbeats 1600000 in
set_option maxRecDepth 100000 in
theorem merge_any (fs : List F) (v : Value) (w : World) (hv : RdF w v fs) (hl : fs.length < 1099511627776) :
    Calls Tryz.prog 96 #[v] w fun e w' => ∃ v', e = .returned v' ∧ w'.ownsRow w.heap.size 56 2 v' (mergeF fs).length ((mergeF fs).flatMap cF) ∧ Below w.heap.size w w' := by
  have hmm := @run_makeMap Tryz.prog
  obtain ⟨ao, cap, rfl, -, hc⟩ := hv.split
  have FC := hid hc
  have hm0 := OwnM.made (E := setElems Tryz.prog 53 undSet) (z := 0#32) (k := 53) (w := w)
  have AO := hid (fun (xs : List S) (u : Value) (W : World) (h : RdE enc W u xs) (hh : xs.length < 17592186044416) => aorder_any xs u W h hh)
  clear hv hc
  go_enter Tryz.func96, Tryz.ntmps96
  go_wp2_with fail
  go_loopw [4, 13] (fun u i wr => ∃ k : Nat, k ≤ fs.length ∧ i = .int .i64 k ∧ OwnS wr w.heap.size k (orOf (fs.take k)) ∧ wr.ownsRow (w.heap.size + 1) 53 1 u ((fs.take k).map (·.1)).length (((fs.take k).map (·.1)).map enc) ∧ Below w.heap.size w wr ∧ w.heap.size + 1 ≤ wr.heap.size) (fun _ i _ => fs.length - (intOf i).toNat)
  case atStart => exact ⟨0, Nat.zero_le _, rfl, hm0, World.ownsRow_nil _ _ _ _, below_alloc _ _, by simp⟩
  case round =>
    obtain ⟨k, hk, rfl, hm, hown, hnx, hsz⟩ := hrel
    have hsz0 := hnx.size
    by_cases hlt : k < fs.length
    · obtain ⟨f, hf⟩ := get_some hlt
      obtain ⟨b, off, rfl, hfc⟩ := FC.out k f hf
      obtain ⟨e0, e1⟩ := hfc wr hnx
      have U := hid (orOf_upd hf)
      have N := hid (show (fs.take (k + 1)).map (·.1) = (fs.take k).map (·.1) ++ [f.1] by rw [take_next hf, List.map_append]; rfl)
      have hxl : ((fs.take k).map (·.1)).length ≤ k := by simp; omega
      clear hfc hf
      generalize orOf (fs.take k) = g at *
      generalize (fs.take k).map (·.1) = xs at *
      have hb1 := below_alloc wr (.cells #[.int .u32 (iv f.1), .int .u32 (iv f.2)] 56)
      have hm1 := hm.below hb1
      have hown1 := own_below hown hb1
      have hnx1 := hnx.trans (hb1.mono hsz0)
      have hc0 : (wr.alloc (.cells #[.int .u32 (iv f.1), .int .u32 (iv f.2)] 56)).cell? ⟨wr.heap.size, 0, none⟩ = some (.int .u32 (iv f.1)) := by simp
      have HC := hid hc0
      have HM := hid hm1
      have HO := hid hown1
      have HN := hid hnx1
      clear hm hown hnx hb1 hm1 hown1 hnx1 hc0
      go_wp2_with (first | (at_lookup; refine wpList_mlook (E := setElems Tryz.prog 53 undSet) (z := 0#32) (f := g) (n := k) (b := w.heap.size) (k := 53) rfl _ _ 164 rfl undSet undMapS (zeroS _) rfl HM.out f.1 rfl ?_; show wpList _ _ _ _ (Act.put _ _ (.int .u32 (iv (g f.1)))) _) | (at_mapUpdate; refine wpList_mput (E := setElems Tryz.prog 53 undSet) rfl _ _ _ 164 rfl undSet undMapS rfl HM.out (by unfold maxLen; omega) f.1 (g f.1 ||| f.2) rfl rfl ?_))
      intro w4 hm4 hg4
      have hm5 := hid (hm4.congr U.out)
      have hown4 := own_grown HO.out hg4 (by omega)
      have hnx4 : Below w.heap.size w w4 := HN.out.grown hg4 HN.out.size (fun j hj => by cases hj; exact Nat.le_refl _)
      have hsz4 := hg4.size
      simp at hsz4
      have hc4 : w4.cell? ⟨wr.heap.size, 0, none⟩ = some (.int .u32 (iv f.1)) := (hg4.cell_far ⟨wr.heap.size, 0, none⟩ (by simp) (by intro e; simp at e; omega)).trans HC.out
      clear hm4 hg4 e0 e1
      go_wp2_with (at_builtin; refine wpList_push rfl _ _ 35 rfl (w.heap.size + 1) 53 (.int .u32 0) 4 undSets infoSet rfl (by decide) enc (fun _ => rfl) _ xs rfl (hown4.alloc _) ⟨w4.heap.size, 0, none⟩ f.1 rfl cell_new (by omega) (by simp; omega) ?_)
      intro v' w5 hown5 hgrow
      have hm6 := hid ((hm5.out.below (below_alloc w4 _)).kept hgrow (fun e => by have := (hown4.lt _ e.symm).1; omega))
      have hb5 := hid (below_push hnx4 hnx4.size (own_mono hown4 (by omega)) hgrow)
      have hs5 := hgrow.size
      simp at hs5
      have ho5 := hid hown5
      clear hgrow hown4 hnx4 hc4 hown5
      go_wp2_with fail
      go_roundw
      case rel => exact ⟨k + 1, by omega, by go_num, hm6.out, by rw [N.out]; simpa using ho5.out, hb5.out, by omega⟩
      case measure => simp [intOf]; omega
    · rw [take_all hlt] at hm hown
      have OS := hid (fun (ys : List S) (h : IsOrd ys (· ∈ fs.map (·.1))) => ordS_of h fun _ => Iff.rfl)
      have hxl : (fs.map (·.1)).length ≤ fs.length := by simp
      have MG := hid (show mergeF fs = (ordS (fs.map (·.1))).map fun s => (s, orOf fs s) from rfl)
      generalize fs.map (·.1) = xs at *
      have R := hid (RdE.of_owns hown (by omega))
      have HM := hid hm
      clear hm hown
      go_wp2_with fail
      refine (AO.out xs _ wr R.out (by omega)).mono ?_
      rintro e w2 ⟨v2, ys, rfl, ho2, hord, hyl, hb2⟩
      have hys := OS.out ys hord
      have M2 := hid (HM.out.below hb2)
      have B2 := hid (hnx.trans (hb2.mono hsz0))
      have R2 := hid (RdE.of_owns ho2 (by omega))
      have MG2 := hid (MG.out.trans (by rw [← hys]))
      obtain ⟨yo, ycap, rfl, -, hyc⟩ := R2.out.split
      have YC := hid hyc
      clear ho2 hord hb2 hnx hyc hys MG
      generalize orOf fs = h at *
      have hs2 := B2.out.size
      go_wp2_with fail
      go_loopw [7, 33] (fun u i wr => ∃ j : Nat, j ≤ ys.length ∧ i = .int .i64 j ∧ wr.ownsRow w2.heap.size 56 2 u ((ys.take j).map fun s => (s, h s)).length (((ys.take j).map fun s => (s, h s)).flatMap cF) ∧ Below w2.heap.size w2 wr) (fun _ i _ => ys.length - (intOf i).toNat)
      case atStart => exact ⟨0, Nat.zero_le _, rfl, World.ownsRow_nil _ _ _ _, Below.refl _ _⟩
      case round =>
        obtain ⟨j, hj, rfl, hown, hnx⟩ := hrel
        have hsz := hnx.size
        have hll : ((ys.take j).map fun s => (s, h s)).length ≤ j := by simp; omega
        by_cases hjl : j < ys.length
        · obtain ⟨s, hs⟩ := get_some hjl
          obtain ⟨yb, yoff, rfl, hyc⟩ := YC.out j s hs
          have ec : wr.cell? ⟨yb, yoff + j, none⟩ = some (.int .u32 (iv s)) := hyc wr hnx
          have N := hid (show (ys.take (j + 1)).map (fun s => (s, h s)) = (ys.take j).map (fun s => (s, h s)) ++ [(s, h s)] by rw [take_next hs, List.map_append]; rfl)
          have M3 := hid (M2.out.below hnx)
          clear hyc hs
          generalize (ys.take j).map (fun s => (s, h s)) = out at *
          go_wp2_with (first | (at_lookup; refine wpList_mlook (E := setElems Tryz.prog 53 undSet) (z := 0#32) (f := h) (n := k) (b := w.heap.size) (k := 53) rfl _ _ 164 rfl undSet undMapS (zeroS _) rfl M3.out s rfl ?_; show wpList _ _ _ _ (Act.put _ _ (.int .u32 (iv (h s)))) _) | (at_builtin; refine wpList_pushC rfl _ _ 28 rfl w2.heap.size 56 (.agg #[.int .u32 0, .int .u32 0]) 2 8 undFDs infoFD rfl (by decide) (by decide) cF cF_length cF_one _ out rfl (hown.alloc _) ⟨wr.heap.size, 0, none⟩ (s, h s) rfl (cells_newF _ (s, h s)) (by omega) (by simp; omega) ?_))
          intro v' w4 hown' hgrow
          have hb4 : Below w2.heap.size w2 w4 := below_push hnx hsz hown hgrow
          clear hgrow hown hnx ec
          go_wp2_with fail
          go_roundw
          case rel => exact ⟨j + 1, by omega, by go_num, by rw [N.out]; simpa using hown', hb4⟩
          case measure => simp [intOf]; omega
        · rw [take_all hjl, ← MG2.out] at hown
          have OO := hid (own_mono hown hs2)
          have BB := hid (B2.out.trans (hnx.mono hs2))
          clear hown hnx
          go_wp2_with fail
          go_ret
          exact ⟨_, rfl, OO.out, BB.out⟩

end Go.Proofs.YthoidncbbcpnnaaGreatDoor


/- The walks of cover's Minimal, Canonical, Redundant, Extraneous and IsMinimal. -/
namespace Go.Proofs.YthoidncbbcpnnaaGreatDoor
open Go.RowKit

theorem minF_length (fs : List F) : (minF fs).length ≤ 32 * fs.length := by
  have h1 := dropS_length _ (onceF (trimF (splitF fs) (splitF fs).length)) 0 (Nat.le_refl _)
  have h2 := onceF_length (trimF (splitF fs) (splitF fs).length)
  have h3 := trimF_length (splitF fs) (splitF fs).length
  have h4 : (splitF fs).length ≤ 32 * fs.length := Nat.le_trans (onceF_length _) (flatSplit_length _)
  unfold minF; omega
theorem valid_len {n : Int} {fs : List F} (h : validF n fs = 0) : fs.length ≤ 64 := by
  unfold validF at h
  by_cases h1 : n < 0 ∨ 16 < n
  · rw [if_pos h1] at h; cases h
  · rw [if_neg h1] at h
    by_cases h2 : 64 < fs.length
    · rw [if_pos h2] at h; cases h
    · omega
/-- What Minimal gives: the minimal cover, or nothing. -/
noncomputable def resM (n : Int) (fs : List F) : List F := if validF n fs = 0 then minF fs else []
theorem resM_length (n : Int) (fs : List F) : (resM n fs).length ≤ 2048 := by
  unfold resM; split
  · rename_i h; have := minF_length fs; have := valid_len h; omega
  · simp

theorem cminimal_any (n : Int) (fs : List F) (v : Value) (w : World) (hT : Tab w) (hv : RdF w v fs) :
    Calls Tryz.prog 95 #[.int .i64 n, v] w fun e w' => ∃ v', e = .returned (.tuple #[v', .int .i64 (validF n fs)]) ∧ w'.ownsRow w.heap.size 56 2 v' (resM n fs).length ((resM n fs).flatMap cF) ∧ Below w.heap.size w w' := by
  have V := hid (validF_any n fs v w hv)
  cases hq : (validF n fs != 0) with
  | true =>
    have hr : resM n fs = [] := by unfold resM; rw [if_neg (by simpa using hq)]
    rw [hr]
    obtain ⟨ao, cap, rfl⟩ := hv.form
    clear hv hr
    generalize validF n fs = r at *
    go_enter Tryz.func95, Tryz.ntmps95
    go_wp2_with fail
    refine (V.out).mono ?_
    rintro e w1 ⟨rfl, hb1⟩
    have B1 := hid hb1
    clear hb1
    go_wp2_with fail
    go_ret2
    exact ⟨_, rfl, World.ownsRow_nil _ _ _ _, B1.out⟩
  | false =>
    have hz : validF n fs = 0 := by simpa using hq
    have hr : resM n fs = minF fs := by unfold resM; rw [if_pos hz]
    rw [hr, hz]
    rw [hz] at V
    have hlen := valid_len hz
    have M := hid (fun (W : World) (h : Below w.heap.size w W) => minimal_any fs v W (hT.below h) (hv.below h) (by omega))
    obtain ⟨ao, cap, rfl⟩ := hv.form
    clear hv hr hz hq
    go_enter Tryz.func95, Tryz.ntmps95
    go_wp2_with fail
    refine (V.out).mono ?_
    rintro e w1 ⟨rfl, hb1⟩
    have B1 := hid hb1
    clear hb1
    go_wp2_with fail
    refine (M.out _ B1.out).mono ?_
    rintro e w2 ⟨v2, rfl, ho2, hb2⟩
    have B2 := hid (B1.out.trans (hb2.mono B1.out.size))
    have O2 := hid (own_mono ho2 B1.out.size)
    clear ho2 hb2
    go_wp2_with fail
    go_ret2
    exact ⟨_, rfl, O2.out, B2.out⟩

theorem canonical_any (n : Int) (fs : List F) (v : Value) (w : World) (hT : Tab w) (hv : RdF w v fs) :
    Calls Tryz.prog 60 #[.int .i64 n, v] w fun e w' => ∃ v', e = .returned (.tuple #[v', .int .i64 (validF n fs)]) ∧ w'.ownsRow w.heap.size 56 2 v' (mergeF (resM n fs)).length ((mergeF (resM n fs)).flatMap cF) ∧ Below w.heap.size w w' := by
  have M := hid (cminimal_any n fs v w hT hv)
  have ML := resM_length n fs
  have MG := hid (fun (u : Value) (W : World) (h : RdF W u (resM n fs)) => merge_any (resM n fs) u W h (by omega))
  obtain ⟨ao, cap, rfl⟩ := hv.form
  clear hv hT
  generalize resM n fs = gs at *
  generalize validF n fs = r at *
  go_enter Tryz.func60, Tryz.ntmps60
  go_wp2_with fail
  refine M.out.mono ?_
  rintro e w1 ⟨v1, rfl, ho1, hb1⟩
  have B1 := hid hb1
  have R1 := hid (RdC.of_owns cF_length ho1 (by omega))
  clear ho1 hb1
  go_wp2_with fail
  refine (MG.out _ _ R1.out).mono ?_
  rintro e w2 ⟨v2, rfl, ho2, hb2⟩
  have B2 := hid (B1.out.trans (hb2.mono B1.out.size))
  have O2 := hid (own_mono ho2 B1.out.size)
  clear ho2 hb2
  go_wp2_with fail
  go_ret2
  exact ⟨_, rfl, O2.out, B2.out⟩




end Go.Proofs.YthoidncbbcpnnaaGreatDoor


/- The walk of cover's IsMinimal. -/
namespace Go.Proofs.YthoidncbbcpnnaaGreatDoor
open Go.RowKit



end Go.Proofs.YthoidncbbcpnnaaGreatDoor


/- The walks of the reference of chapter 10. -/
namespace Go.Proofs.YthoidncbbcpnnaaGreatDoor
open Go.RowKit

theorem own_empty (w : World) : (w.alloc (.cells #[] 56)).ownsRow w.heap.size 56 2 (.slice (some ⟨w.heap.size, 0, none⟩) 0 0) ([] : List F).length (([] : List F).flatMap cF) :=
  World.ownsRow_lit (size := 2) (e := 56) w #[] 0 (Nat.le_refl _) (Nat.zero_le _) rfl

set_option maxHeartbeats 800000 in
set_option maxRecDepth 100000 in
theorem refOthers_any (fs : List F) (i : Nat) (hi : i < fs.length) (v : Value) (w : World) (hv : RdF w v fs) (hl : fs.length < 1099511627776) :
    Calls Tryz.prog 148 #[v, .int .i64 i] w fun e w' => ∃ v', e = .returned v' ∧ w'.ownsRow w.heap.size 56 2 v' (othersF fs i).length ((othersF fs i).flatMap cF) ∧ Below w.heap.size w w' := by
  obtain ⟨ao, cap, rfl, h1, h2, h3⟩ := hv
  obtain ⟨b, off, rfl, hb, hc⟩ := h3 (by omega)
  have hv : RdF w (.slice (some ⟨b, off, none⟩) fs.length cap) fs := ⟨_, cap, rfl, h1, h2, fun _ => ⟨b, off, rfl, hb, hc⟩⟩
  have V1 := hid (hv.take (k := i) (by omega))
  have V2 := hid (hv.drop cF_length (k := i + 1) (by omega))
  have l1 : (fs.take i).length ≤ i := by simp; omega
  have l2 : (fs.drop (i + 1)).length ≤ fs.length := by simp
  have OE := hid (show fs.take i ++ fs.drop (i + 1) = othersF fs i from rfl)
  have i0 : (0 : Int) ≤ (i : Int) := by omega
  have i1 : (i : Int) < (fs.length : Int) := by omega
  have i2 : (i : Int) ≤ (cap : Int) := by omega
  have i3 : (fs.length : Int) ≤ (cap : Int) := by omega
  have i4 : (i : Int) + 1 ≤ (fs.length : Int) := by omega
  have i5 : (i : Int) + 1 ≤ (cap : Int) := by omega
  have i6 : (0 : Int) ≤ (i : Int) + 1 := by omega
  have hw := IntWalk.i64_in ((i : Int) + 1) (by omega)
  have HW := hid hw
  have i7 : ((i : Int) + 1).toNat = i + 1 := by omega
  have HB := hid (below_alloc w (.cells #[] 56)).drew
  have E0 := hid (own_empty w)
  clear h3 hc hv hw
  generalize hxs : fs.take i = xs at *
  generalize hys : fs.drop (i + 1) = ys at *
  have K : ∀ (w2 : World) (v2 : Value) (w3 : World) (v3 : Value), Below w.heap.size w w2 → w.heap.size ≤ w2.heap.size → w2.ownsRow w.heap.size 56 2 v2 ([] ++ xs).length (([] ++ xs).flatMap cF) → w2.grownBy w3 v2.ownBlock → Below w.heap.size w w3 := fun w2 v2 w3 v3 h1 h2 h3 h4 => h1.grown h4 h2 (fun j hj => (h3.lt j hj).1)
  have HK := hid K
  clear K hxs hys
  by_cases hcap : cap = i + 1
  · subst hcap
    rw [if_pos rfl, show fs.length - (i + 1) = 0 by omega, Nat.sub_self] at V2
    have i2 : (i : Int) ≤ (i : Int) + 1 := by omega
    have i3 : (fs.length : Int) ≤ (i : Int) + 1 := by omega
    clear i5
    have hsub : fs.length - (i + 1) = 0 := by omega
    go_enter Tryz.func148, Tryz.ntmps148
    go_wp2_with fail
    have hw := HW.out
    go_region_held3 (fun W => Below w.heap.size w W)
      (first | exact (Below.refl _ _).drew | exact HB.out | assumption)
      (first
        | (refine step_appC (by rfl) _ _ 28 (by rfl) w.heap.size 56 (.agg #[.int .u32 0, .int .u32 0]) 8 undFDs infoFD rfl (by decide) (by decide) cF_length cF_one _ [] (by rfl) E0.out.drew _ xs (by rfl) (V1.out.below HB.out) (by simp; omega) HB.out.size ?_; intro v2 w2 ho2 hg2; have hL : Below w.heap.size w w2 := HB.out.grown hg2 HB.out.size (fun j hj => (E0.out.drew.lt j hj).1); clear hg2)
        | (refine step_appC (by rfl) _ _ 28 (by rfl) w.heap.size 56 (.agg #[.int .u32 0, .int .u32 0]) 8 undFDs infoFD rfl (by decide) (by decide) cF_length cF_one _ ([] ++ xs) (by rfl) ho2 _ ys (by rfl) (V2.out.below hL) (by simp; omega) hL.size ?_; intro v3 w3 ho3 hg3; have hL3 : Below w.heap.size w w3 := HK.out _ _ _ v3 hL hL.size ho2 hg3; clear hg3))
    have HL := hid hL3
    have HO := hid ho3
    clear hL ho2 hL3 ho3 hw
    rw [List.nil_append, OE.out] at HO
    go_wp2_with fail
    go_ret
    exact ⟨_, rfl, HO.out, HL.out⟩
  · rw [if_neg hcap] at V2
    go_enter Tryz.func148, Tryz.ntmps148
    go_wp2_with fail
    have hw := HW.out
    go_region_held3 (fun W => Below w.heap.size w W)
      (first | exact (Below.refl _ _).drew | exact HB.out | assumption)
      (first
        | (refine step_appC (by rfl) _ _ 28 (by rfl) w.heap.size 56 (.agg #[.int .u32 0, .int .u32 0]) 8 undFDs infoFD rfl (by decide) (by decide) cF_length cF_one _ [] (by rfl) E0.out.drew _ xs (by rfl) (V1.out.below HB.out) (by simp; omega) HB.out.size ?_; intro v2 w2 ho2 hg2; have hL : Below w.heap.size w w2 := HB.out.grown hg2 HB.out.size (fun j hj => (E0.out.drew.lt j hj).1); clear hg2)
        | (refine step_appC (by rfl) _ _ 28 (by rfl) w.heap.size 56 (.agg #[.int .u32 0, .int .u32 0]) 8 undFDs infoFD rfl (by decide) (by decide) cF_length cF_one _ ([] ++ xs) (by rfl) ho2 _ ys (by rfl) (V2.out.below hL) (by simp; omega) hL.size ?_; intro v3 w3 ho3 hg3; have hL3 : Below w.heap.size w w3 := HK.out _ _ _ v3 hL hL.size ho2 hg3; clear hg3))
    have HL := hid hL3
    have HO := hid ho3
    clear hL ho2 hL3 ho3 hw
    rw [List.nil_append, OE.out] at HO
    go_wp2_with fail
    go_ret
    exact ⟨_, rfl, HO.out, HL.out⟩

theorem refRedundant_any (fs : List F) (i : Nat) (hi : i < fs.length) (v : Value) (w : World) (hv : RdF w v fs) (hl : fs.length < 1099511627776) :
    Calls Tryz.prog 147 #[v, .int .i64 i] w fun e w' => e = .returned (.bool (redB fs i)) ∧ Below w.heap.size w w' := by
  have C1 := hid (fun (W : World) (hb : Below w.heap.size w W) => refOthers_any fs i hi v W (hv.below hb) hl)
  obtain ⟨f, hf⟩ := get_some hi
  have C2 := hid (fun (u : Value) (W : World) (hu : RdF W u (othersF fs i)) => refImplies_any (othersF fs i) f u W hu)
  rw [redB_at hf]
  have hol := others_length hi
  obtain ⟨ao, cap, rfl, -, hc⟩ := hv.split
  obtain ⟨b, off, rfl, hfc⟩ := hc i f hf
  have HS := hid (fun (W : World) (h : Below w.heap.size w W) => And.intro h (hfc W h))
  have hlt : (i : Int) < (fs.length : Int) := by omega
  have hi0 : (0 : Int) ≤ (i : Int) := by omega
  have RO := hid (fun (u : Value) (W : World) (B : Nat) (h : W.ownsRow B 56 2 u (othersF fs i).length ((othersF fs i).flatMap cF)) => RdC.of_owns cF_length h (by omega))
  clear hv hc hfc hf hol hi
  generalize othersF fs i = gs at *
  generalize impS gs f = r at *
  simp only [enc_eq] at C2
  go_enter Tryz.func147, Tryz.ntmps147
  go_wp2_with fail
  go_region_held3 (fun W => Below w.heap.size w W ∧ W.cell? ⟨b, off + i * 2, none⟩ = some (.int .u32 (iv f.1)) ∧ W.cell? ⟨b, off + i * 2 + 1, none⟩ = some (.int .u32 (iv f.2)))
    (first | exact HS.out _ (Below.refl _ _).drew | exact HS.out _ (by assumption))
    (first
      | (go_at_call 148; have hS := And.left ‹Below w.heap.size w _ ∧ _ ∧ _›; refine (C1.out _ hS).mono ?_; rintro e w2 ⟨v2, rfl, ho2, hb2⟩; have hL := later hS hb2; have hr2 := RO.out _ _ _ ho2; clear hb2 hS ho2)
      | (go_at_call 27; have hS := And.left ‹Below w.heap.size w _ ∧ _ ∧ _›; refine (C2.out _ _ (by assumption)).mono ?_; rintro e w3 ⟨rfl, hb3⟩; have hL := later hS hb3; clear hb3 hS))
  all_goals
    have HL := hid hL
    clear hL
    go_wp2_with fail
    go_ret
    exact ⟨rfl, HL.out⟩

theorem refExtraneous_any (fs : List F) (i : Nat) (x : F) (hx : fs[i]? = some x) (a : Nat) (ha : a < 32) (v : Value) (w : World) (hv : RdF w v fs) :
    Calls Tryz.prog 145 #[v, .int .i64 i, .int .i64 a] w fun e w' => e = .returned (.bool (x.1.getLsbD a && extrB fs x a)) ∧ Below w.heap.size w w' := by
  have C1 := hid (fun (W : World) => has_any x.1 a ha W)
  have C2 := hid (fun (W : World) (h : Below w.heap.size w W) => refImplies_any fs (x.1 &&& ~~~ (1#32 <<< a), x.2) v W (hv.below h))
  have hi := (List.getElem?_eq_some_iff.1 hx).1
  have E := hid (show extrB fs x a = impS fs (x.1 &&& ~~~ (1#32 <<< a), x.2) from rfl)
  obtain ⟨ao, cap, rfl, -, hc⟩ := hv.split
  obtain ⟨b, off, rfl, hfc⟩ := hc i x hx
  have HS := hid (fun (W : World) (h : Below w.heap.size w W) => And.intro h (hfc W h))
  have hlt : (i : Int) < (fs.length : Int) := by omega
  have hi0 : (0 : Int) ≤ (i : Int) := by omega
  have a0 : (0 : Int) ≤ (a : Int) := by omega
  rw [E.out]
  clear hv hc hfc hx hi E
  generalize impS fs (x.1 &&& ~~~ (1#32 <<< a), x.2) = r at *
  simp only [enc_eq] at C1 C2
  cases hq : x.1.getLsbD a with
  | true =>
    rw [hq] at C1
    clear hq
    go_enter Tryz.func145, Tryz.ntmps145
    go_wp2_with fail
    go_region_held3 (fun W => Below w.heap.size w W ∧ W.cell? ⟨b, off + i * 2, none⟩ = some (.int .u32 (iv x.1)) ∧ W.cell? ⟨b, off + i * 2 + 1, none⟩ = some (.int .u32 (iv x.2)))
      (first | exact HS.out _ (Below.refl _ _).drew | exact HS.out _ (by assumption) | assumption)
      (first
        | (go_at_call 117; refine (C1.out _).mono ?_; rintro e w2 ⟨rfl, rfl⟩)
        | (go_at_call 27; have hS := And.left ‹Below w.heap.size w _ ∧ _ ∧ _›; refine (C2.out _ hS).mono ?_; rintro e w3 ⟨rfl, hb3⟩; have hL := later hS hb3; clear hb3 hS))
    all_goals
      have HL := hid hL
      clear hL
      go_wp2_with fail
      go_ret
      exact ⟨ret_bool (by simp), HL.out⟩
  | false =>
    rw [hq] at C1
    clear hq C2
    go_enter Tryz.func145, Tryz.ntmps145
    go_wp2_with fail
    obtain ⟨-, e0, e1⟩ := HS.out w (Below.refl _ _)
    go_quiet ((go_at_call 117; exact Calls.quiet_of_same ((C1.out _).mono (fun _ _ h => ⟨h.1, h.2.symm⟩))))
    go_wp2_with fail
    go_ret
    exact ⟨rfl, below_drewN _ _ _⟩

end Go.Proofs.YthoidncbbcpnnaaGreatDoor

namespace Go.Proofs.YthoidncbbcpnnaaGreatDoor
open Go.RowKit Go.Shelf

def seenB (l : List F) (f : F) : Bool := l.any fun y => decide (y = f)
theorem seen_next {l : List F} {k : Nat} {y : F} (h : l[k]? = some y) (f : F) : seenB (l.take (k + 1)) f = (seenB (l.take k) f || decide (y = f)) := by
  unfold seenB; rw [take_next h, List.any_append]; simp
theorem seen_mem (l : List F) (f : F) : seenB l f = decide (f ∈ onceF l) := by
  unfold seenB
  rw [Bool.eq_iff_iff, List.any_eq_true, decide_eq_true_iff, mem_onceF]
  constructor
  · rintro ⟨y, hy, h⟩
    rw [decide_eq_true_iff] at h; rw [← h]; exact hy
  · intro h; exact ⟨f, h, by simp⟩

set_option maxHeartbeats 800000 in
theorem refOnce_any (fs : List F) (v : Value) (w : World) (hv : RdF w v fs) (hl : fs.length < 1099511627776) :
    Calls Tryz.prog 146 #[v] w fun e w' => ∃ v', e = .returned v' ∧ w'.ownsRow w.heap.size 56 2 v' (onceF fs).length ((onceF fs).flatMap cF) ∧ Below w.heap.size w w' := by
  obtain ⟨ao, cap, rfl, -, hc⟩ := hv.split
  have FC := hid hc
  have EQ := hid (fun (x y : F) (W : World) => (eqlF.1 x y W))
  have GD := hid (fun (op : BinOp) (a b : Operand) (x y : F) (W : World) => (eqlF.2 op a b x y W))
  clear hv hc
  simp only [cF, enc_eq] at EQ GD
  go_enter Tryz.func146, Tryz.ntmps146
  go_wp2_with fail
  go_loopw [3, 4] (fun o i wr => ∃ k : Nat, k ≤ fs.length ∧ i = .int .i64 k ∧ wr.ownsRow w.heap.size 56 2 o (onceF (fs.take k)).length ((onceF (fs.take k)).flatMap cF) ∧ Below w.heap.size w wr) (fun _ i _ => fs.length - (intOf i).toNat)
  case atStart => exact ⟨0, Nat.zero_le _, rfl, World.ownsRow_nil _ _ _ _, Below.refl _ _⟩
  case round =>
    obtain ⟨k, hk, rfl, hown, hnx⟩ := hrel
    obtain ⟨wo, rfl⟩ : ∃ wo : World, wo = wr := ⟨_, rfl⟩
    have hsz := hnx.size
    have hol : (onceF (fs.take k)).length ≤ k := Nat.le_trans (onceF_length _) (by simp; omega)
    by_cases hlt : k < fs.length
    · obtain ⟨f, hf⟩ := get_some hlt
      obtain ⟨b, off, rfl, hfc⟩ := FC.out k f hf
      have HC := hid hfc
      have N := hid (onceF_next hf)
      have SM := hid (seen_mem (fs.take k) f)
      have k0 : (0 : Int) ≤ (k : Int) := by omega
      have k1 : (k : Int) < (fs.length : Int) := by omega
      have HO := hid hown
      have HN := hid hnx
      clear hfc hf hown hnx
      go_wp2_with fail
      go_loopw [5, 6] (fun s i wr => ∃ j q : Nat, j ≤ k ∧ i = .int .i64 j ∧ s = .bool (seenB (fs.take j) f) ∧ wr = wo.drewN q) (fun _ i _ => k - (intOf i).toNat)
      case atStart => exact ⟨0, 0, Nat.zero_le _, rfl, rfl, rfl⟩
      case round =>
        obtain ⟨j, q, hj, rfl, rfl, rfl⟩ := hrel
        by_cases hjl : j < k
        · obtain ⟨y, hy⟩ := get_some (show j < fs.length by omega)
          obtain ⟨b', off', he, hyc⟩ := FC.out j y hy
          cases he
          have SN := hid (seen_next hy f)
          obtain ⟨c0, c1⟩ := hyc wo HN.out
          obtain ⟨e0, e1⟩ := HC.out wo HN.out
          have EQ1 := EQ.out y f
          have GD1 := fun (op : BinOp) (a b : Operand) (W : World) => GD.out op a b y f W
          have j0 : (0 : Int) ≤ (j : Int) := by omega
          have j1 : (j : Int) < (fs.length : Int) := by omega
          clear hyc hy
          generalize decide (y = f) = r at *
          cases hq : seenB (fs.take j) f with
          | true =>
            have SN2 := hid (show seenB (fs.take (j + 1)) f = true by rw [SN.out, hq]; rfl)
            clear hq SN
            go_wp2_with fail
            go_quiet (fail)
            go_wp2_with fail
            go_roundw
            case rel => exact ⟨j + 1, _, by omega, by go_num, by rw [SN2.out], rfl⟩
            case measure => simp [intOf]; omega
          | false =>
            have SN2 := hid (show seenB (fs.take (j + 1)) f = r by rw [SN.out, hq]; rfl)
            clear hq SN
            go_wp2_with fail
            go_quiet (fail)
            go_wp2_with fail
            go_roundw
            case rel => exact ⟨j + 1, _, by omega, by go_num, by rw [SN2.out], rfl⟩
            case measure => simp [intOf]; omega
        · obtain rfl : j = k := by omega
          have hn2 := hid (below_drewN' HN.out q)
          have ho2 := hid (own_below HO.out (below_drewN wo.heap.size wo q))
          obtain ⟨e0, e1⟩ := HC.out _ hn2.out
          rw [SM.out]
          clear HO HN
          generalize onceF (fs.take j) = out at *
          obtain ⟨w2, hw2⟩ : ∃ w2 : World, wo.drewN q = w2 := ⟨_, rfl⟩
          rw [hw2] at hn2 ho2 e0 e1
          rw [hw2]
          clear hw2
          have hs2 := hn2.out.size
          cases hq : decide (f ∈ out) with
          | true =>
            have N2 := hid (N.out.trans (onceStep_yes hq))
            clear hq N
            go_wp2_with fail
            go_roundw
            case rel => exact ⟨j + 1, by omega, by go_num, by rw [N2.out]; exact ho2.out, hn2.out⟩
            case measure => simp [intOf]; omega
          | false =>
            have N2 := hid (N.out.trans (onceStep_no hq))
            clear hq N
            go_wp2_with (at_builtin; refine wpList_pushC rfl _ _ 28 rfl w.heap.size 56 (.agg #[.int .u32 0, .int .u32 0]) 2 8 undFDs infoFD rfl (by decide) (by decide) cF cF_length cF_one _ out rfl (ho2.out.alloc _) ⟨w2.heap.size, 0, none⟩ f rfl (cells_newF _ _) (by omega) (by simp; omega) ?_)
            intro v' w3 hown' hgrow
            have hb3 : Below w.heap.size w w3 := below_push hn2.out hs2 ho2.out hgrow
            clear hgrow e0 e1
            go_wp2_with fail
            go_roundw
            case rel => exact ⟨j + 1, by omega, by go_num, by rw [N2.out]; simpa using hown', hb3⟩
            case measure => simp [intOf]; omega
    · rw [take_all hlt] at hown
      go_wp2_with fail
      go_ret
      exact ⟨_, rfl, hown, hnx⟩

theorem split_yes {f : F} {a : Nat} (h : (f.2 &&& ~~~ f.1).getLsbD a = true) : (memN (f.2 &&& ~~~ f.1) (a + 1)).map (sideX f) = (memN (f.2 &&& ~~~ f.1) a).map (sideX f) ++ [sideX f a] := by rw [memN_yes h, List.map_append]; rfl
theorem split_no {f : F} {a : Nat} (h : (f.2 &&& ~~~ f.1).getLsbD a = false) : (memN (f.2 &&& ~~~ f.1) (a + 1)).map (sideX f) = (memN (f.2 &&& ~~~ f.1) a).map (sideX f) := by rw [memN_no h]

set_option maxHeartbeats 800000 in
set_option maxRecDepth 100000 in
theorem refSplit_any (fs : List F) (v : Value) (w : World) (hv : RdF w v fs) (hl : fs.length < 34359738368) :
    Calls Tryz.prog 144 #[v] w fun e w' => ∃ v', e = .returned v' ∧ w'.ownsRow w.heap.size 56 2 v' (splitF fs).length ((splitF fs).flatMap cF) ∧ Below w.heap.size w w' := by
  have HA := hid (fun (s : S) (a : Nat) (ha : a < 32) (W : World) => has_any s a ha W)
  obtain ⟨ao, cap, rfl, -, hc⟩ := hv.split
  have FC := hid hc
  have ON := hid (fun (u : Value) (W : World) (hu : RdF W u (fs.flatMap splitX)) => refOnce_any (fs.flatMap splitX) u W hu (by have := flatSplit_length fs; omega))
  have ONE := hid (show onceF (fs.flatMap splitX) = splitF fs from rfl)
  clear hv hc
  simp only [enc_eq] at HA
  go_enter Tryz.func144, Tryz.ntmps144
  go_wp2_with fail
  go_loopw [3, 4] (fun o i wr => ∃ k : Nat, k ≤ fs.length ∧ i = .int .i64 k ∧ wr.ownsRow w.heap.size 56 2 o ((fs.take k).flatMap splitX).length (((fs.take k).flatMap splitX).flatMap cF) ∧ Below w.heap.size w wr) (fun _ i _ => fs.length - (intOf i).toNat)
  case atStart => exact ⟨0, Nat.zero_le _, rfl, World.ownsRow_nil _ _ _ _, Below.refl _ _⟩
  case round =>
    obtain ⟨k, hk, rfl, hown, hnx⟩ := hrel
    obtain ⟨wo, rfl⟩ : ∃ wo : World, wo = wr := ⟨_, rfl⟩
    have hsz := hnx.size
    have hol : ((fs.take k).flatMap splitX).length ≤ 32 * k := Nat.le_trans (flatSplit_length _) (by simp; omega)
    by_cases hlt : k < fs.length
    · obtain ⟨f, hf⟩ := get_some hlt
      obtain ⟨b, off, rfl, hfc⟩ := FC.out k f hf
      have HS := hid (fun (W : World) (h : Below w.heap.size w W) => And.intro h (hfc W h))
      have N := hid (flatSplit_next hf)
      have NS := hid (show splitX f = (memN (f.2 &&& ~~~ f.1) 32).map (sideX f) from rfl)
      have k0 : (0 : Int) ≤ (k : Int) := by omega
      have k1 : (k : Int) < (fs.length : Int) := by omega
      have HML := hid (fun a => memN_length (f.2 &&& ~~~ f.1) a)
      have HY := hid (fun (a : Nat) (h : (f.2 &&& ~~~ f.1).getLsbD a = true) => split_yes h)
      have HN := hid (fun (a : Nat) (h : (f.2 &&& ~~~ f.1).getLsbD a = false) => split_no h)
      have HF := hid (HA.out (f.2 &&& ~~~ f.1))
      clear hfc hf
      generalize (fs.take k).flatMap splitX = out at *
      have HO := hid hown
      have HX := hid hnx
      clear hown hnx
      go_wp2_with fail
      go_loopw [3, 5] (fun o i wr => ∃ a : Nat, a ≤ 32 ∧ i = .int .i64 a ∧ wr.ownsRow w.heap.size 56 2 o (out ++ (memN (f.2 &&& ~~~ f.1) a).map (sideX f)).length ((out ++ (memN (f.2 &&& ~~~ f.1) a).map (sideX f)).flatMap cF) ∧ Below w.heap.size w wr) (fun _ i _ => 32 - (intOf i).toNat)
      case atStart => exact ⟨0, by omega, rfl, by simpa [memN] using HO.out, HX.out⟩
      case round =>
        obtain ⟨a, ha, rfl, hown, hnx⟩ := hrel
        have hsz := hnx.size
        have hll : (out ++ (memN (f.2 &&& ~~~ f.1) a).map (sideX f)).length ≤ out.length + 32 := by have := HML.out a; simp; omega
        by_cases hal : a < 32
        · have a0 : (0 : Int) ≤ (a : Int) := by omega
          have H1 := hid (HF.out a hal)
          cases hq : (f.2 &&& ~~~ f.1).getLsbD a with
          | true =>
            rw [hq] at H1
            have Y := hid (show out ++ (memN (f.2 &&& ~~~ f.1) (a + 1)).map (sideX f) = (out ++ (memN (f.2 &&& ~~~ f.1) a).map (sideX f)) ++ [sideX f a] by rw [HY.out a hq, List.append_assoc])
            clear hq
            generalize out ++ (memN (f.2 &&& ~~~ f.1) a).map (sideX f) = ys at *
            go_wp2_with fail
            go_region_held3 (fun W => Below w.heap.size w W ∧ W.cell? ⟨b, off + k * 2, none⟩ = some (.int .u32 (iv f.1)) ∧ W.cell? ⟨b, off + k * 2 + 1, none⟩ = some (.int .u32 (iv f.2)))
              (first | exact HS.out _ hnx.drew | assumption)
              (first
                | (go_at_call 117; refine (H1.out _).mono ?_; rintro e w2 ⟨rfl, rfl⟩))
            have hn1 := hnx.drew
            have ho1 := hown.drew
            generalize wr.drew = w2 at *
            clear hnx hown
            have hs2 := hn1.size
            go_wp2_with fail
            go_region_held3 (fun W => Below w.heap.size w W ∧ W.cell? ⟨b, off + k * 2, none⟩ = some (.int .u32 (iv f.1)) ∧ W.cell? ⟨b, off + k * 2 + 1, none⟩ = some (.int .u32 (iv f.2)))
              (first | exact HS.out _ hn1.drew | exact HS.out _ (hn1.alloc hs2 _).drew | exact HS.out _ (by assumption))
              ((refine step_pushC (by rfl) _ _ 28 (by rfl) w.heap.size 56 (.agg #[.int .u32 0, .int .u32 0]) 2 8 undFDs infoFD rfl (by decide) (by decide) cF cF_length cF_one _ ys (by rfl) ((ho1.alloc _).drew) ⟨w2.heap.size, 0, none⟩ (sideX f a) (by rfl) (cells_newFd _ (sideX f a)) (by omega) (by simp; omega) ?_; intro v' w3 hown' hgrow; have hb3 : Below w.heap.size w w3 := below_push hn1.drew hs2 ho1.drew hgrow))
            have OW := hid hown'
            have B3 := hid hb3
            clear hgrow hown' hb3 hn1 ho1
            go_wp2_with fail
            go_roundw
            case rel => exact ⟨a + 1, by omega, by go_num, by rw [Y.out]; simpa using OW.out, B3.out⟩
            case measure => simp [intOf]; omega
          | false =>
            rw [hq] at H1
            have Y := hid (show out ++ (memN (f.2 &&& ~~~ f.1) (a + 1)).map (sideX f) = out ++ (memN (f.2 &&& ~~~ f.1) a).map (sideX f) by rw [HN.out a hq])
            clear hq
            generalize out ++ (memN (f.2 &&& ~~~ f.1) a).map (sideX f) = ys at *
            go_wp2_with fail
            go_region_held3 (fun W => Below w.heap.size w W ∧ W.cell? ⟨b, off + k * 2, none⟩ = some (.int .u32 (iv f.1)) ∧ W.cell? ⟨b, off + k * 2 + 1, none⟩ = some (.int .u32 (iv f.2)))
              (first | exact HS.out _ hnx.drew | assumption)
              (first
                | (go_at_call 117; refine (H1.out _).mono ?_; rintro e w2 ⟨rfl, rfl⟩))
            have hn1 := hid hnx.drew
            have ho1 := hid hown.drew
            clear hnx hown
            go_wp2_with fail
            go_roundw
            case rel => exact ⟨a + 1, by omega, by go_num, by rw [Y.out]; exact ho1.out, hn1.out⟩
            case measure => simp [intOf]; omega
        · obtain rfl : a = 32 := by omega
          rw [← NS.out, ← N.out] at hown
          go_wp2_with fail
          go_roundw
          case rel => exact ⟨k + 1, by omega, by go_num, hown, hnx⟩
          case measure => simp [intOf]; omega
    · rw [take_all hlt] at hown hol
      have R := hid (RdC.of_owns cF_length hown (by omega))
      clear hown
      go_wp2_with fail
      refine (ON.out _ _ R.out).mono ?_
      rintro e w2 ⟨v2, rfl, ho2, hb2⟩
      have B2 := hid (hnx.trans (hb2.mono hsz))
      have O2 := hid (own_mono ho2 hsz)
      rw [ONE.out] at O2
      clear ho2 hb2 hnx
      go_wp2_with fail
      go_ret
      exact ⟨_, rfl, O2.out, B2.out⟩

end Go.Proofs.YthoidncbbcpnnaaGreatDoor

namespace Go.Proofs.YthoidncbbcpnnaaGreatDoor
open Go.RowKit

/-- The reference's step: an attribute of the left side is looked at. -/
noncomputable def lookStep (i : Nat) (l : List F) (a : Nat) : List F := if (l.getD i (0#32, 0#32)).1.getLsbD a then trimStep i l a else l
theorem lookStep_at {i : Nat} {l : List F} {x : F} {a : Nat} (h : l[i]? = some x) : lookStep i l a = if x.1.getLsbD a && extrB l x a then l.set i (x.1 &&& ~~~ bit a, x.2) else l := by
  unfold lookStep
  have e : l.getD i (0#32, 0#32) = x := by simp [List.getD, h]
  rw [e]
  cases h1 : x.1.getLsbD a with
  | false => simp
  | true =>
    cases h2 : extrB l x a with
    | true => rw [trimStep_yes h h2]; simp
    | false => rw [trimStep_no h h2]; simp
noncomputable def lookN (l : List F) (i : Nat) : Nat → List F
  | 0 => l
  | a + 1 => lookStep i (lookN l i a) a
/-- Only attributes that are looked at go. -/
theorem trimN_keeps {i : Nat} : ∀ (ms : List Nat) (l : List F) (x : F), l[i]? = some x → ∃ s, (trimN l i ms)[i]? = some (s, x.2) ∧ ∀ b, b < 32 → b ∉ ms → s.getLsbD b = x.1.getLsbD b := by
  intro ms
  induction ms with
  | nil => intro l x h; exact ⟨x.1, h, fun _ _ _ => rfl⟩
  | cons a ms ih =>
    intro l x h
    have key : ∃ t, (trimStep i l a)[i]? = some (t, x.2) ∧ ∀ b, b < 32 → b ≠ a → t.getLsbD b = x.1.getLsbD b := by
      cases he : extrB l x a with
      | true =>
        rw [trimStep_yes h he]
        refine ⟨x.1 &&& ~~~ bit a, by rw [List.getElem?_set_self (List.getElem?_eq_some_iff.1 h).1], fun b hb hne => ?_⟩
        rw [less_get _ _ _ hb]; simp [hne]
      | false => rw [trimStep_no h he]; exact ⟨x.1, h, fun _ _ _ => rfl⟩
    obtain ⟨t, ht, htb⟩ := key
    obtain ⟨s, hs, hsb⟩ := ih (trimStep i l a) (t, x.2) ht
    refine ⟨s, hs, fun b hb hm => ?_⟩
    rw [List.mem_cons, not_or] at hm
    rw [hsb b hb hm.2, htb b hb hm.1]
theorem lookN_trim {l : List F} {i : Nat} {x : F} (h : l[i]? = some x) : ∀ m, m ≤ 32 → lookN l i m = trimN l i (memN x.1 m) := by
  intro m
  induction m with
  | zero => intro _; rfl
  | succ m ih =>
    intro hm
    have e : lookN l i (m + 1) = lookStep i (lookN l i m) m := rfl
    rw [e, ih (by omega)]
    obtain ⟨s, hs, hsb⟩ := trimN_keeps (memN x.1 m) l x h
    have hb := hsb m (by omega) (fun hmem => by have := (mem_memN.1 hmem).1; omega)
    unfold lookStep
    have e2 : (trimN l i (memN x.1 m)).getD i (0#32, 0#32) = (s, x.2) := by simp [List.getD, hs]
    rw [e2]
    cases hq : x.1.getLsbD m with
    | true => rw [if_pos (by rw [hb, hq]), memN_yes hq]; unfold trimN; rw [List.foldl_append]; rfl
    | false => rw [if_neg (by rw [hb, hq]; simp), memN_no hq]
theorem memN_full {s : S} {n : Nat} (hn : n ≤ 32) (h : sub s (fullN n)) : memN s n = memN s 32 := by
  have : ∀ m, n ≤ m → m ≤ 32 → memN s m = memN s n := by
    intro m
    induction m with
    | zero => intro h1 _; rw [show n = 0 by omega]
    | succ m ih =>
      intro h1 h2
      by_cases e : n = m + 1
      · rw [e]
      · rw [memN_no, ih (by omega) (by omega)]
        cases hq : s.getLsbD m with
        | false => rfl
        | true =>
          have := h m (by omega) hq
          rw [fullN_get n m (by omega), decide_eq_true_iff] at this; omega
  exact (this 32 hn (Nat.le_refl _)).symm
/-- All sides lie within a set. -/
def Within (n : Nat) (l : List F) : Prop := ∀ f ∈ l, sub f.1 (fullN n)
theorem within_trim {n : Nat} {l : List F} (h : Within n l) : ∀ k, Within n (trimF l k) := by
  intro k
  induction k with
  | zero => exact h
  | succ k ih =>
    intro f hf
    obtain ⟨j, hj, rfl⟩ := List.mem_iff_getElem.1 hf
    have hl : j < (trimF l k).length := by have e : (trimF l (k + 1)).length = (trimF l k).length := trimN_length _ _ _; omega
    by_cases hjk : j = k
    · subst hjk
      obtain ⟨s, hs, hss, _⟩ := trimN_at (lhsN (trimF l j) j) (trimF l j) _ (List.getElem?_eq_getElem hl)
      have e : (trimF l (j + 1))[j]? = some (s, (trimF l j)[j].2) := hs
      rw [List.getElem?_eq_getElem hj] at e
      rw [Option.some.inj e]
      exact sub_trans hss (ih _ (List.getElem_mem hl))
    · have e : (trimF l (k + 1))[j]? = (trimF l k)[j]? := trimN_other hjk _ _
      rw [List.getElem?_eq_getElem hj, List.getElem?_eq_getElem hl] at e
      rw [Option.some.inj e]
      exact ih _ (List.getElem_mem hl)
theorem valid_within {n : Int} {fs : List F} (h : validF n fs = 0) : 0 ≤ n ∧ n ≤ 16 ∧ fs.length ≤ 64 ∧ ∀ f ∈ fs, sub f.1 (fullN n.toNat) ∧ sub f.2 (fullN n.toNat) := by
  unfold validF at h
  by_cases h1 : n < 0 ∨ 16 < n
  · rw [if_pos h1] at h; cases h
  · rw [if_neg h1] at h
    by_cases h2 : 64 < fs.length
    · rw [if_pos h2] at h; cases h
    · rw [if_neg h2] at h
      refine ⟨by omega, by omega, by omega, fun f hf => ?_⟩
      cases h3 : fs.any (outF n.toNat) with
      | true => rw [if_pos h3] at h; cases h
      | false =>
        rw [List.any_eq_false] at h3
        have := h3 f hf
        rw [outF_sub] at this
        simpa using this
theorem within_split {n : Nat} {fs : List F} (h : ∀ f ∈ fs, sub f.1 (fullN n)) : Within n (splitF fs) := fun f hf => by
  obtain ⟨x, hx, hf⟩ := mem_splitF.1 hf
  obtain ⟨a, _, _, _, rfl⟩ := mem_splitX.1 hf
  exact h x hx
theorem lookN_length (l : List F) (i : Nat) : ∀ a, (lookN l i a).length = l.length := by
  intro a
  induction a with
  | zero => rfl
  | succ a ih =>
    have e : lookN l i (a + 1) = lookStep i (lookN l i a) a := rfl
    rw [e]; unfold lookStep; split
    · rw [trimStep_length, ih]
    · exact ih

set_option maxHeartbeats 1600000 in
set_option maxRecDepth 100000 in
theorem refMinimal_ok (m : Nat) (fs : List F) (v : Value) (w : World) (hv : RdF w v fs) (hq : validF m fs = 0) :
    Calls Tryz.prog 97 #[.int .i64 m, v] w fun e w' => ∃ v', e = .returned (.tuple #[v', .int .i64 0]) ∧ w'.ownsRow w.heap.size 56 2 v' (minF fs).length ((minF fs).flatMap cF) ∧ Below w.heap.size w w' := by
  have V := hid (refValidF_any m fs v w hv)
  rw [hq] at V
  obtain ⟨_, hm16, hfl, hwi⟩ := valid_within hq
  rw [show (m : Int).toNat = m by omega] at hwi
  have hm : m ≤ 16 := by omega
  have SP := hid (refSplit_any fs v w hv (by omega))
  have SL := hid (show (splitF fs).length ≤ 32 * fs.length from Nat.le_trans (onceF_length _) (flatSplit_length _))
  have MD := hid (show dropS (onceF (trimF (splitF fs) (splitF fs).length)) 0 = minF fs from rfl)
  have WI := hid (within_trim (within_split fun f hf => (hwi f hf).1))
  obtain ⟨ao, cap, rfl⟩ := hv.form
  clear hv hq hwi hm16
  have hsl := SL.out
  generalize splitF fs = l0 at *
  have EX := hid (fun (l : List F) (i : Nat) (x : F) (hx : l[i]? = some x) (a : Nat) (ha : a < 32) (u : Value) (W : World) (h : RdF W u l) => refExtraneous_any l i x hx a ha u W h)
  have ON := hid (fun (l : List F) (u : Value) (W : World) (h : RdF W u l) (hh : l.length < 1099511627776) => refOnce_any l u W h hh)
  have RE := hid (fun (l : List F) (i : Nat) (hi : i < l.length) (u : Value) (W : World) (h : RdF W u l) (hh : l.length < 1099511627776) => refRedundant_any l i hi u W h hh)
  have OT := hid (fun (l : List F) (i : Nat) (hi : i < l.length) (u : Value) (W : World) (h : RdF W u l) (hh : l.length < 1099511627776) => refOthers_any l i hi u W h hh)
  go_enter Tryz.func97, Tryz.ntmps97
  go_wp2_with fail
  refine (V.out).mono ?_
  rintro e w' ⟨rfl, rfl⟩
  go_wp2_with fail
  refine SP.out.mono ?_
  rintro e w1 ⟨v1, rfl, ho1, hb1⟩
  have O1 := hid ho1
  have B1 := hid hb1
  obtain ⟨lo, lcap, rfl⟩ := (show RdF w1 v1 l0 from RdC.of_owns cF_length ho1 (by omega)).form
  clear ho1 hb1 SP
  go_wp2_with fail
  go_loopw [8] (fun i wr => ∃ k : Nat, k ≤ l0.length ∧ i = .int .i64 k ∧ wr.ownsRow w.heap.size 56 2 (.slice lo l0.length lcap) l0.length ((trimF l0 k).flatMap cF) ∧ Below w.heap.size w wr) (fun i _ => l0.length - (intOf i).toNat)
  case atStart => exact ⟨0, Nat.zero_le _, rfl, O1.out, B1.out⟩
  case round =>
    obtain ⟨k, hk, rfl, hown, hnx⟩ := hrel
    obtain ⟨wo, rfl⟩ : ∃ wo : World, wo = wr := ⟨_, rfl⟩
    have hsz := hnx.size
    have hlk := trimF_length l0 k
    by_cases hlt : k < l0.length
    · obtain ⟨x, hx⟩ := get_some (show k < (trimF l0 k).length by omega)
      obtain ⟨g, gcap, he⟩ := own_form hown (by omega)
      cases he
      have hgw : w.heap.size ≤ g := (hown.lt g rfl).1
      have TN := hid (show lookN (trimF l0 k) k m = trimF l0 (k + 1) by
        rw [lookN_trim hx m (by omega), memN_full (by omega) (WI.out k x (List.mem_of_getElem? hx)), ← lhsN_at hx]; rfl)
      have LL := hid (fun a => (lookN_length (trimF l0 k) k a).trans hlk)
      have LN := hid (fun a => show lookN (trimF l0 k) k (a + 1) = lookStep k (lookN (trimF l0 k) k a) a from rfl)
      have HO := hid hown
      have HN := hid hnx
      clear hx hown hnx
      go_wp2_with fail
      go_loopw [9] (fun i wr => ∃ a : Nat, a ≤ m ∧ i = .int .i64 a ∧ wr.ownsRow w.heap.size 56 2 (.slice (some ⟨g, 0, none⟩) l0.length lcap) l0.length ((lookN (trimF l0 k) k a).flatMap cF) ∧ Below w.heap.size w wr) (fun i _ => m - (intOf i).toNat)
      case atStart => exact ⟨0, Nat.zero_le _, rfl, HO.out, HN.out⟩
      case round =>
        obtain ⟨a, ha, rfl, hown, hnx⟩ := hrel
        by_cases hal : a < m
        · have hll := LL.out a
          have TS := hid (LN.out a)
          generalize lookN (trimF l0 k) k a = L at *
          obtain ⟨y, hy⟩ := get_some (show k < L.length by omega)
          have E := hid (EX.out L k y hy a (by omega) _ wr (of_ownsN hll hown (by omega)))
          have LA := hid (lookStep_at (a := a) hy)
          have a0 : (0 : Int) ≤ (a : Int) := by omega
          have k1 : (k : Int) < (l0.length : Int) := by omega
          have k0 : (0 : Int) ≤ (k : Int) := by omega
          cases hq : (y.1.getLsbD a && extrB L y a) with
          | true =>
            rw [hq] at E
            have TS2 := hid (TS.out.trans (LA.out.trans (if_pos hq)))
            have FS := hid (flat_set hy (y.1 &&& ~~~ (1#32 <<< a)))
            simp only [enc_eq] at E FS
            clear hq TS LA
            go_wp2_with fail
            refine E.out.mono ?_
            rintro e w3 ⟨rfl, hb3⟩
            have hown3 := own_below hown hb3
            have hn3 := hnx.trans (hb3.mono hnx.size)
            obtain ⟨c0, c1⟩ := cells_own hown3 hll hy
            have hfz : w3.frozen? ⟨g, k * 2, none⟩ = false := hown3.frozenAt _
            clear hb3 hown hnx hy
            go_wp2_with fail
            go_still_tail 12, (by kernel_rfl)
            have ST := hown3.stored (k * 2) (.int .u32 (iv (y.1 &&& ~~~ (1#32 <<< a))))
            rw [FS.out] at ST
            have S1 := hid ST.1
            have S2 := hid (hn3.setCell (p := ⟨g, k * 2, none⟩) hgw (.int .u32 (iv (y.1 &&& ~~~ (1#32 <<< a)))))
            clear ST hown3 hn3
            go_wp2_with fail
            go_roundw
            case rel => exact ⟨a + 1, by omega, by go_num, by rw [TS2.out]; exact S1.out.drew, S2.out.drew⟩
            case measure => simp [intOf]; omega
          | false =>
            rw [hq] at E
            have TS2 := hid (TS.out.trans (LA.out.trans (if_neg (by simp [hq]))))
            clear hq TS LA
            go_wp2_with fail
            refine E.out.mono ?_
            rintro e w3 ⟨rfl, hb3⟩
            have hown3 := own_below hown hb3
            have hn3 := hnx.trans (hb3.mono hnx.size)
            clear hb3 hown hnx hy
            go_wp2_with fail
            go_roundw
            case rel => exact ⟨a + 1, by omega, by go_num, by rw [TS2.out]; exact hown3, hn3⟩
            case measure => simp [intOf]; omega
        · obtain rfl : a = m := by omega
          rw [TN.out] at hown
          go_wp2_with fail
          go_roundw
          case rel => exact ⟨k + 1, by omega, by go_num, hown, hnx⟩
          case measure => simp [intOf]; omega
    · obtain rfl : k = l0.length := by omega
      have R := hid (of_ownsN hlk hown (by omega))
      have OO := hid (ON.out _ _ wo R.out (by omega))
      have hol := onceF_length (trimF l0 l0.length)
      clear hown R
      generalize onceF (trimF l0 l0.length) = l1 at *
      go_wp2_with fail
      refine OO.out.mono ?_
      rintro e w2 ⟨v2, rfl, ho2, hb2⟩
      have B2 := hid (hnx.trans (hb2.mono hsz))
      have O2 := hid (own_mono ho2 hsz)
      clear ho2 hb2 hnx
      go_wp2_with fail
      go_loopw [7, 10] (fun u i wr => ∃ (l : List F) (i' : Nat), i' ≤ l.length ∧ l.length ≤ l1.length ∧ i = .int .i64 i' ∧ lenOf u = l.length ∧ wr.ownsRow w.heap.size 56 2 u l.length (l.flatMap cF) ∧ Hid (dropS l i' = minF fs) ∧ Below w.heap.size w wr) (fun u i _ => lenOf u - (intOf i).toNat)
      case atStart =>
        refine ⟨l1, 0, Nat.zero_le _, Nat.le_refl _, rfl, ?_, O2.out, hid MD.out, B2.out⟩
        obtain ⟨ao, cap, rfl⟩ := (show RdF w2 v2 l1 from RdC.of_owns cF_length O2.out (by omega)).form
        rfl
      case round =>
        obtain ⟨l, i, hil, hll1, rfl, hlo, hown, D, hnx⟩ := hrel
        have hsz := hnx.size
        have R := hid (show RdF wr u7 l from RdC.of_owns cF_length hown (by omega))
        obtain ⟨uo, ucap, rfl⟩ := R.out.form
        by_cases hlt : i < l.length
        · have RD := hid (RE.out l i hlt _ wr R.out (by omega))
          have hol := others_length hlt
          cases hq : redB l i with
          | true =>
            rw [hq] at RD
            have D2 := hid ((dropS_yes hlt hq).symm.trans D.out)
            clear hq D
            go_wp2_with fail
            refine RD.out.mono ?_
            rintro e w3 ⟨rfl, hb3⟩
            have hn3 := hnx.trans (hb3.mono hsz)
            have hs3 := hn3.size
            have OTH := hid (OT.out l i hlt _ w3 (R.out.below hb3) (by omega))
            clear hb3 hnx hown
            go_wp2_with fail
            refine OTH.out.mono ?_
            rintro e w4 ⟨v4, rfl, ho4, hb4⟩
            have hn4 := hn3.trans (hb4.mono hs3)
            have hv4 : lenOf v4 = (othersF l i).length := by
              obtain ⟨ao, cap, rfl⟩ := (show RdF w4 v4 (othersF l i) from RdC.of_owns cF_length ho4 (by omega)).form
              rfl
            have O4 := hid (own_mono ho4 hs3)
            have HV := hid hv4
            have HOL := hid hol
            clear ho4 hb4 hn3 hv4
            go_wp2_with fail
            go_roundw
            case rel => exact ⟨othersF l i, i, by rw [HOL.out]; omega, by rw [HOL.out]; omega, rfl, HV.out, O4.out, D2, hn4⟩
            case measure => rw [HV.out, HOL.out]; simp [intOf, lenOf]; omega
          | false =>
            rw [hq] at RD
            have D2 := hid ((dropS_no hlt hq).symm.trans D.out)
            clear hq D hol
            go_wp2_with fail
            refine RD.out.mono ?_
            rintro e w3 ⟨rfl, hb3⟩
            have hn3 := hnx.trans (hb3.mono hsz)
            have ho3 := own_below hown hb3
            clear hb3 hnx hown
            go_wp2_with fail
            go_roundw
            case rel => exact ⟨l, i + 1, by omega, hll1, by go_num, rfl, ho3, D2, hn3⟩
            case measure => simp [intOf, lenOf]; omega
        · have D2 := hid ((dropS_end hlt).symm.trans D.out)
          clear D
          go_wp2_with fail
          go_ret2
          rw [← D2.out]
          exact ⟨_, rfl, hown, hnx⟩

theorem refMinimal_any (n : Int) (fs : List F) (v : Value) (w : World) (hv : RdF w v fs) :
    Calls Tryz.prog 97 #[.int .i64 n, v] w fun e w' => ∃ v', e = .returned (.tuple #[v', .int .i64 (validF n fs)]) ∧ w'.ownsRow w.heap.size 56 2 v' (resM n fs).length ((resM n fs).flatMap cF) ∧ Below w.heap.size w w' := by
  cases hq : (validF n fs != 0) with
  | true =>
    have V := hid (refValidF_any n fs v w hv)
    have hr : resM n fs = [] := by unfold resM; rw [if_neg (by simpa using hq)]
    rw [hr]
    obtain ⟨ao, cap, rfl⟩ := hv.form
    clear hv hr
    generalize validF n fs = r at *
    go_enter Tryz.func97, Tryz.ntmps97
    go_wp2_with fail
    refine (V.out).mono ?_
    rintro e w' ⟨rfl, rfl⟩
    go_wp2_with fail
    go_ret2
    exact ⟨_, rfl, World.ownsRow_nil _ _ _ _, Below.refl _ _⟩
  | false =>
    have hz : validF n fs = 0 := by simpa using hq
    have hr : resM n fs = minF fs := by unfold resM; rw [if_pos hz]
    obtain ⟨h0, _⟩ := valid_within hz
    obtain ⟨m, rfl⟩ : ∃ m : Nat, n = m := ⟨n.toNat, by omega⟩
    rw [hr, hz]
    exact refMinimal_ok m fs v w hv hz

end Go.Proofs.YthoidncbbcpnnaaGreatDoor

namespace Go.Proofs.YthoidncbbcpnnaaGreatDoor
open Go.RowKit




end Go.Proofs.YthoidncbbcpnnaaGreatDoor

namespace Go.Proofs.YthoidncbbcpnnaaGreatDoor
open Go.RowKit

attribute [local irreducible] Go.wpQuiet

end Go.Proofs.YthoidncbbcpnnaaGreatDoor

namespace Go.Proofs.YthoidncbbcpnnaaGreatDoor
open Go.RowKit

theorem box_new (w : World) (x : F) : (w.alloc (.cells #[.int .u32 (iv x.1), .int .u32 (iv x.2)] 56)).ownsRow w.heap.size 56 2 (.slice (some ⟨w.heap.size, 0, none⟩) 1 1) 1 ([x].flatMap cF) :=
  World.ownsRow_lit (size := 2) (e := 56) w #[.int .u32 (iv x.1), .int .u32 (iv x.2)] 1 (Nat.le_refl _) (by decide) rfl
theorem box_set (s a b : S) : ([(s, a)].flatMap cF).set 1 (.int .u32 (iv b)) = [(s, b)].flatMap cF := rfl

set_option maxHeartbeats 1600000 in
set_option maxRecDepth 100000 in
theorem refMerge_any (fs : List F) (v : Value) (w : World) (hv : RdF w v fs) (hl : fs.length < 1099511627776) :
    Calls Tryz.prog 98 #[v] w fun e w' => ∃ v', e = .returned v' ∧ w'.ownsRow w.heap.size 56 2 v' (mergeF fs).length ((mergeF fs).flatMap cF) ∧ Below w.heap.size w w' := by
  obtain ⟨ao, cap, rfl, -, hc⟩ := hv.split
  have FC := hid hc
  have AO := hid (fun (xs : List S) (u : Value) (W : World) (h : RdE enc W u xs) (hh : xs.length < 17592186044416) => refOrder_any xs u W h hh)
  clear hv hc
  go_enter Tryz.func98, Tryz.ntmps98
  go_wp2_with fail
  go_loopw [3, 4] (fun u i wr => ∃ k : Nat, k ≤ fs.length ∧ i = .int .i64 k ∧ wr.ownsRow w.heap.size 53 1 u ((fs.take k).map (·.1)).length (((fs.take k).map (·.1)).map enc) ∧ Below w.heap.size w wr) (fun _ i _ => fs.length - (intOf i).toNat)
  case atStart => exact ⟨0, Nat.zero_le _, rfl, World.ownsRow_nil _ _ _ _, Below.refl _ _⟩
  case round =>
    obtain ⟨k, hk, rfl, hown, hnx⟩ := hrel
    have hsz := hnx.size
    by_cases hlt : k < fs.length
    · obtain ⟨f, hf⟩ := get_some hlt
      obtain ⟨b, off, rfl, hfc⟩ := FC.out k f hf
      obtain ⟨e0, e1⟩ := hfc wr hnx
      have N := hid (show (fs.take (k + 1)).map (·.1) = (fs.take k).map (·.1) ++ [f.1] by rw [take_next hf, List.map_append]; rfl)
      have hxl : ((fs.take k).map (·.1)).length ≤ k := by simp; omega
      clear hfc hf
      generalize (fs.take k).map (·.1) = xs at *
      go_wp2_with (at_builtin; refine wpList_push rfl _ _ 35 rfl w.heap.size 53 (.int .u32 0) 4 undSets infoSet rfl (by decide) enc (fun _ => rfl) _ xs rfl (hown.alloc _) ⟨wr.heap.size, 0, none⟩ f.1 rfl cell_new (by omega) (by simp; omega) ?_)
      intro v' w5 hown5 hgrow
      have hb5 := hid (below_push hnx hsz hown hgrow)
      have ho5 := hid hown5
      clear hgrow hown hnx hown5 e0 e1
      go_wp2_with fail
      go_roundw
      case rel => exact ⟨k + 1, by omega, by go_num, by rw [N.out]; simpa using ho5.out, hb5.out⟩
      case measure => simp [intOf]; omega
    · rw [take_all hlt] at hown
      have OS := hid (fun (ys : List S) (h : IsOrd ys (· ∈ fs.map (·.1))) => ordS_of h fun _ => Iff.rfl)
      have hxl : (fs.map (·.1)).length ≤ fs.length := by simp
      have MG := hid (show mergeF fs = (ordS (fs.map (·.1))).map fun s => (s, orOf fs s) from rfl)
      generalize fs.map (·.1) = xs at *
      have R := hid (RdE.of_owns hown (by omega))
      clear hown
      go_wp2_with fail
      refine (AO.out xs _ wr R.out (by omega)).mono ?_
      rintro e w2 ⟨v2, ys, rfl, ho2, hord, hyl, hb2⟩
      have hys := OS.out ys hord
      have B2 := hid (hnx.trans (hb2.mono hsz))
      have R2 := hid (RdE.of_owns ho2 (by omega))
      have MG2 := hid (MG.out.trans (by rw [← hys]))
      obtain ⟨yo, ycap, rfl, -, hyc⟩ := R2.out.split
      have YC := hid hyc
      clear ho2 hord hb2 hnx hyc hys MG R
      have hs2 := B2.out.size
      go_wp2_with fail
      go_loopw [5, 6] (fun u i wr => ∃ j : Nat, j ≤ ys.length ∧ i = .int .i64 j ∧ wr.ownsRow w2.heap.size 56 2 u ((ys.take j).map fun s => (s, orOf fs s)).length (((ys.take j).map fun s => (s, orOf fs s)).flatMap cF) ∧ Below w2.heap.size w2 wr) (fun _ i _ => ys.length - (intOf i).toNat)
      case atStart => exact ⟨0, Nat.zero_le _, rfl, World.ownsRow_nil _ _ _ _, Below.refl _ _⟩
      case round =>
        obtain ⟨j, hj, rfl, hown, hnx⟩ := hrel
        obtain ⟨wo, rfl⟩ : ∃ wo : World, wo = wr := ⟨_, rfl⟩
        have hsz := hnx.size
        have hll : ((ys.take j).map fun s => (s, orOf fs s)).length ≤ j := by simp; omega
        by_cases hjl : j < ys.length
        · obtain ⟨s, hs⟩ := get_some hjl
          obtain ⟨yb, yoff, rfl, hyc⟩ := YC.out j s hs
          have ec : wo.cell? ⟨yb, yoff + j, none⟩ = some (.int .u32 (iv s)) := hyc wo hnx
          have N := hid (show (ys.take (j + 1)).map (fun s => (s, orOf fs s)) = (ys.take j).map (fun s => (s, orOf fs s)) ++ [(s, orOf fs s)] by rw [take_next hs, List.map_append]; rfl)
          have YW := hid (fun (W : World) (h : Below wo.heap.size wo W) => show W.cell? ⟨yb, yoff + j, none⟩ = some (.int .u32 (iv s)) from hyc W (hnx.trans (h.mono hnx.size)))
          have FW := hid (fun (W : World) (h : Below wo.heap.size wo W) => B2.out.trans ((hnx.trans (h.mono hnx.size)).mono hs2))
          have BX := hid (box_new wo (s, 0#32))
          have BB := hid (below_alloc wo (.cells #[.int .u32 (iv s), .int .u32 (iv 0#32)] 56))
          have HO := hid hown
          have HN := hid hnx
          have j0 : (0 : Int) ≤ (j : Int) := by omega
          have j1 : (j : Int) < (ys.length : Int) := by omega
          clear hyc hs hown hnx
          generalize (ys.take j).map (fun s => (s, orOf fs s)) = out at *
          go_wp2_with fail
          go_loopw [8] (fun i wr => ∃ q : Nat, q ≤ fs.length ∧ i = .int .i64 q ∧ wr.ownsRow wo.heap.size 56 2 (.slice (some ⟨wo.heap.size, 0, none⟩) 1 1) 1 ([(s, orOf (fs.take q) s)].flatMap cF) ∧ Below wo.heap.size wo wr) (fun i _ => fs.length - (intOf i).toNat)
          case atStart => exact ⟨0, Nat.zero_le _, rfl, BX.out, BB.out⟩
          case round =>
            obtain ⟨q, hq, rfl, hbox, hnb⟩ := hrel
            have hszb := hnb.size
            obtain ⟨c0, c1⟩ := cells_own (i := 0) (x := (s, orOf (fs.take q) s)) hbox rfl rfl
            by_cases hql : q < fs.length
            · obtain ⟨f, hf⟩ := get_some hql
              obtain ⟨b, off, he, hfc⟩ := FC.out q f hf
              cases he
              obtain ⟨e0, e1⟩ := hfc wr (FW.out wr hnb)
              have e2 := YW.out wr hnb
              have ON := hid (orOf_next hf s)
              have q0 : (0 : Int) ≤ (q : Int) := by omega
              have q1 : (q : Int) < (fs.length : Int) := by omega
              have HC := hid hfc
              clear hfc hf
              generalize orOf (fs.take q) s = acc at *
              cases hc : (f.1 == s) with
              | true =>
                have hfs : f.1 = s := by simpa using hc
                have hd : (iv f.1 == iv s) = true := by rw [hfs]; simp
                have ON2 := hid (ON.out.trans (if_pos hfs))
                have HB := hid hbox
                have NB := hid hnb
                clear hc ON hfs hbox hnb
                go_wp2_with fail
                go_quiet (fail)
                go_wp2_with fail
                obtain ⟨w3, hw3⟩ : ∃ w3 : World, wr.drewN nq = w3 := ⟨_, rfl⟩
                have hb3 : w3.ownsRow wo.heap.size 56 2 (.slice (some ⟨wo.heap.size, 0, none⟩) 1 1) 1 ([(s, acc)].flatMap cF) := by rw [← hw3]; exact own_below HB.out (below_drewN wr.heap.size wr nq)
                have hn3 : Below wo.heap.size wo w3 := by rw [← hw3]; exact below_drewN' NB.out nq
                clear e0 e1 e2 c0 c1 HB NB
                obtain ⟨e0, e1⟩ := HC.out w3 (FW.out w3 hn3)
                obtain ⟨c0, c1⟩ := cells_own (i := 0) (x := (s, acc)) hb3 rfl rfl
                have hfz : w3.frozen? ⟨wo.heap.size, 1, none⟩ = false := hb3.frozenAt _
                have hszb := hn3.size
                rw [hw3]
                clear hw3
                go_still_tail 9, (by kernel_rfl)
                have ST := hb3.stored 1 (.int .u32 (iv (acc ||| f.2)))
                rw [box_set] at ST
                have S1 := hid ST.1
                have S2 := hid (hn3.setCell (p := ⟨wo.heap.size, 1, none⟩) (Nat.le_refl _) (.int .u32 (iv (acc ||| f.2))))
                clear ST hb3 hn3
                go_wp2_with fail
                go_roundw
                case rel => exact ⟨q + 1, by omega, by go_num, by rw [ON2.out]; exact S1.out.drew, S2.out.drew⟩
                case measure => simp [intOf]; omega
              | false =>
                have hfs : ¬ f.1 = s := by simpa using hc
                have hd : (iv f.1 == iv s) = false := by rw [beq_eq_false_iff_ne]; intro h; exact hfs (iv_inj h)
                have ON2 := hid (ON.out.trans (if_neg hfs))
                clear hc ON
                go_wp2_with fail
                go_quiet (fail)
                go_wp2_with fail
                go_roundw
                case rel => exact ⟨q + 1, by omega, by go_num, by rw [ON2.out]; exact own_below hbox (below_drewN _ _ _), below_drewN' hnb _⟩
                case measure => simp [intOf]; omega
            · rw [take_all hql] at hbox c0 c1
              have hown3 := own_below HO.out hnb
              have hnx3 := HN.out.trans (hnb.mono HN.out.size)
              have hs3 := hnx3.size
              clear hbox ec
              generalize orOf fs s = acc at *
              go_wp2_with (at_builtin; refine wpList_pushC rfl _ _ 28 rfl w2.heap.size 56 (.agg #[.int .u32 0, .int .u32 0]) 2 8 undFDs infoFD rfl (by decide) (by decide) cF cF_length cF_one _ out rfl (hown3.alloc _) ⟨wr.heap.size, 0, none⟩ (s, acc) rfl (cells_newF _ (s, acc)) (by omega) (by simp; omega) ?_)
              intro v' w4 hown' hgrow
              have hb4 : Below w2.heap.size w2 w4 := below_push hnx3 hs3 hown3 hgrow
              clear hgrow hown3 hnx3 c0 c1
              go_wp2_with fail
              go_roundw
              case rel => exact ⟨j + 1, by omega, by go_num, by rw [N.out]; simpa using hown', hb4⟩
              case measure => simp [intOf]; omega
        · rw [take_all hjl, ← MG2.out] at hown
          have OO := hid (own_mono hown hs2)
          have BB := hid (B2.out.trans (hnx.mono hs2))
          clear hown hnx
          go_wp2_with fail
          go_ret
          exact ⟨_, rfl, OO.out, BB.out⟩

theorem refCanonical_any (n : Int) (fs : List F) (v : Value) (w : World) (hv : RdF w v fs) :
    Calls Tryz.prog 61 #[.int .i64 n, v] w fun e w' => ∃ v', e = .returned (.tuple #[v', .int .i64 (validF n fs)]) ∧ w'.ownsRow w.heap.size 56 2 v' (mergeF (resM n fs)).length ((mergeF (resM n fs)).flatMap cF) ∧ Below w.heap.size w w' := by
  have M := hid (refMinimal_any n fs v w hv)
  have ML := resM_length n fs
  have MG := hid (fun (u : Value) (W : World) (h : RdF W u (resM n fs)) => refMerge_any (resM n fs) u W h (by omega))
  obtain ⟨ao, cap, rfl⟩ := hv.form
  clear hv
  generalize resM n fs = gs at *
  generalize validF n fs = r at *
  go_enter Tryz.func61, Tryz.ntmps61
  go_wp2_with fail
  refine M.out.mono ?_
  rintro e w1 ⟨v1, rfl, ho1, hb1⟩
  have B1 := hid hb1
  have R1 := hid (RdC.of_owns cF_length ho1 (by omega))
  clear ho1 hb1
  go_wp2_with fail
  refine (MG.out _ _ R1.out).mono ?_
  rintro e w2 ⟨v2, rfl, ho2, hb2⟩
  have B2 := hid (B1.out.trans (hb2.mono B1.out.size))
  have O2 := hid (own_mono ho2 B1.out.size)
  clear ho2 hb2
  go_wp2_with fail
  go_ret2
  exact ⟨_, rfl, O2.out, B2.out⟩

end Go.Proofs.YthoidncbbcpnnaaGreatDoor

