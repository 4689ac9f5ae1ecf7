/- The walks of the reference of chapter 10. -/
import Derived.Test.YtciamnkalmihcaaDoorIsMin
import Derived.Test.YtciamnkalmihcaaDoorRefOrd
namespace Go.Proofs.YtciamnkalmihcaaDoor
open Go.RowKit

theorem own_empty (w : World) : (w.alloc (.cells #[] 34)).ownsRow w.heap.size 34 2 (.slice (some ⟨w.heap.size, 0, none⟩) 0 0) ([] : List F).length (([] : List F).flatMap cF) :=
  World.ownsRow_lit (size := 2) (e := 34) w #[] 0 (Nat.le_refl _) (Nat.zero_le _) rfl

set_option maxHeartbeats 800000 in
set_option maxRecDepth 100000 in
theorem refOthers_any (fs : List F) (i : Nat) (hi : i < fs.length) (v : Value) (w : World) (hv : RdF w v fs) (hl : fs.length < 1099511627776) :
    Calls Tryd.prog 47 #[v, .int .i64 i] w fun e w' => ∃ v', e = .returned v' ∧ w'.ownsRow w.heap.size 34 2 v' (othersF fs i).length ((othersF fs i).flatMap cF) ∧ Below w.heap.size w w' := by
  obtain ⟨ao, cap, rfl, h1, h2, h3⟩ := hv
  obtain ⟨b, off, rfl, hb, hc⟩ := h3 (by omega)
  have hv : RdF w (.slice (some ⟨b, off, none⟩) fs.length cap) fs := ⟨_, cap, rfl, h1, h2, fun _ => ⟨b, off, rfl, hb, hc⟩⟩
  have V1 := hid (hv.take (k := i) (by omega))
  have V2 := hid (hv.drop cF_length (k := i + 1) (by omega))
  have l1 : (fs.take i).length ≤ i := by simp; omega
  have l2 : (fs.drop (i + 1)).length ≤ fs.length := by simp
  have OE := hid (show fs.take i ++ fs.drop (i + 1) = othersF fs i from rfl)
  have i0 : (0 : Int) ≤ (i : Int) := by omega
  have i1 : (i : Int) < (fs.length : Int) := by omega
  have i2 : (i : Int) ≤ (cap : Int) := by omega
  have i3 : (fs.length : Int) ≤ (cap : Int) := by omega
  have i4 : (i : Int) + 1 ≤ (fs.length : Int) := by omega
  have i5 : (i : Int) + 1 ≤ (cap : Int) := by omega
  have i6 : (0 : Int) ≤ (i : Int) + 1 := by omega
  have hw := IntWalk.i64_in ((i : Int) + 1) (by omega)
  have HW := hid hw
  have i7 : ((i : Int) + 1).toNat = i + 1 := by omega
  have HB := hid (below_alloc w (.cells #[] 34)).drew
  have E0 := hid (own_empty w)
  clear h3 hc hv hw
  generalize hxs : fs.take i = xs at *
  generalize hys : fs.drop (i + 1) = ys at *
  have K : ∀ (w2 : World) (v2 : Value) (w3 : World) (v3 : Value), Below w.heap.size w w2 → w.heap.size ≤ w2.heap.size → w2.ownsRow w.heap.size 34 2 v2 ([] ++ xs).length (([] ++ xs).flatMap cF) → w2.grownBy w3 v2.ownBlock → Below w.heap.size w w3 := fun w2 v2 w3 v3 h1 h2 h3 h4 => h1.grown h4 h2 (fun j hj => (h3.lt j hj).1)
  have HK := hid K
  clear K hxs hys
  by_cases hcap : cap = i + 1
  · subst hcap
    rw [if_pos rfl, show fs.length - (i + 1) = 0 by omega, Nat.sub_self] at V2
    have i2 : (i : Int) ≤ (i : Int) + 1 := by omega
    have i3 : (fs.length : Int) ≤ (i : Int) + 1 := by omega
    clear i5
    have hsub : fs.length - (i + 1) = 0 := by omega
    go_enter Tryd.func47, Tryd.ntmps47
    go_wp2_with fail
    have hw := HW.out
    go_region_held3 (fun W => Below w.heap.size w W)
      (first | exact (Below.refl _ _).drew | exact HB.out | assumption)
      (first
        | (refine step_appC (by rfl) _ _ 27 (by rfl) w.heap.size 34 (.agg #[.int .u32 0, .int .u32 0]) 8 undFDs infoFD rfl (by decide) (by decide) cF_length cF_one _ [] (by rfl) E0.out.drew _ xs (by rfl) (V1.out.below HB.out) (by simp; omega) HB.out.size ?_; intro v2 w2 ho2 hg2; have hL : Below w.heap.size w w2 := HB.out.grown hg2 HB.out.size (fun j hj => (E0.out.drew.lt j hj).1); clear hg2)
        | (refine step_appC (by rfl) _ _ 27 (by rfl) w.heap.size 34 (.agg #[.int .u32 0, .int .u32 0]) 8 undFDs infoFD rfl (by decide) (by decide) cF_length cF_one _ ([] ++ xs) (by rfl) ho2 _ ys (by rfl) (V2.out.below hL) (by simp; omega) hL.size ?_; intro v3 w3 ho3 hg3; have hL3 : Below w.heap.size w w3 := HK.out _ _ _ v3 hL hL.size ho2 hg3; clear hg3))
    have HL := hid hL3
    have HO := hid ho3
    clear hL ho2 hL3 ho3 hw
    rw [List.nil_append, OE.out] at HO
    go_wp2_with fail
    go_ret
    exact ⟨_, rfl, HO.out, HL.out⟩
  · rw [if_neg hcap] at V2
    go_enter Tryd.func47, Tryd.ntmps47
    go_wp2_with fail
    have hw := HW.out
    go_region_held3 (fun W => Below w.heap.size w W)
      (first | exact (Below.refl _ _).drew | exact HB.out | assumption)
      (first
        | (refine step_appC (by rfl) _ _ 27 (by rfl) w.heap.size 34 (.agg #[.int .u32 0, .int .u32 0]) 8 undFDs infoFD rfl (by decide) (by decide) cF_length cF_one _ [] (by rfl) E0.out.drew _ xs (by rfl) (V1.out.below HB.out) (by simp; omega) HB.out.size ?_; intro v2 w2 ho2 hg2; have hL : Below w.heap.size w w2 := HB.out.grown hg2 HB.out.size (fun j hj => (E0.out.drew.lt j hj).1); clear hg2)
        | (refine step_appC (by rfl) _ _ 27 (by rfl) w.heap.size 34 (.agg #[.int .u32 0, .int .u32 0]) 8 undFDs infoFD rfl (by decide) (by decide) cF_length cF_one _ ([] ++ xs) (by rfl) ho2 _ ys (by rfl) (V2.out.below hL) (by simp; omega) hL.size ?_; intro v3 w3 ho3 hg3; have hL3 : Below w.heap.size w w3 := HK.out _ _ _ v3 hL hL.size ho2 hg3; clear hg3))
    have HL := hid hL3
    have HO := hid ho3
    clear hL ho2 hL3 ho3 hw
    rw [List.nil_append, OE.out] at HO
    go_wp2_with fail
    go_ret
    exact ⟨_, rfl, HO.out, HL.out⟩



end Go.Proofs.YtciamnkalmihcaaDoor

namespace Go.Proofs.YtciamnkalmihcaaDoor
open Go.RowKit Go.Shelf

def seenB (l : List F) (f : F) : Bool := l.any fun y => decide (y = f)
theorem seen_next {l : List F} {k : Nat} {y : F} (h : l[k]? = some y) (f : F) : seenB (l.take (k + 1)) f = (seenB (l.take k) f || decide (y = f)) := by
  unfold seenB; rw [take_next h, List.any_append]; simp
theorem seen_mem (l : List F) (f : F) : seenB l f = decide (f ∈ onceF l) := by
  unfold seenB
  rw [Bool.eq_iff_iff, List.any_eq_true, decide_eq_true_iff, mem_onceF]
  constructor
  · rintro ⟨y, hy, h⟩
    rw [decide_eq_true_iff] at h; rw [← h]; exact hy
  · intro h; exact ⟨f, h, by simp⟩


theorem split_yes {f : F} {a : Nat} (h : (f.2 &&& ~~~ f.1).getLsbD a = true) : (memN (f.2 &&& ~~~ f.1) (a + 1)).map (sideX f) = (memN (f.2 &&& ~~~ f.1) a).map (sideX f) ++ [sideX f a] := by rw [memN_yes h, List.map_append]; rfl
theorem split_no {f : F} {a : Nat} (h : (f.2 &&& ~~~ f.1).getLsbD a = false) : (memN (f.2 &&& ~~~ f.1) (a + 1)).map (sideX f) = (memN (f.2 &&& ~~~ f.1) a).map (sideX f) := by rw [memN_no h]


end Go.Proofs.YtciamnkalmihcaaDoor

namespace Go.Proofs.YtciamnkalmihcaaDoor
open Go.RowKit

/-- The reference's step: an attribute of the left side is looked at. -/
noncomputable def lookStep (i : Nat) (l : List F) (a : Nat) : List F := if (l.getD i (0#32, 0#32)).1.getLsbD a then trimStep i l a else l
theorem lookStep_at {i : Nat} {l : List F} {x : F} {a : Nat} (h : l[i]? = some x) : lookStep i l a = if x.1.getLsbD a && extrB l x a then l.set i (x.1 &&& ~~~ bit a, x.2) else l := by
  unfold lookStep
  have e : l.getD i (0#32, 0#32) = x := by simp [List.getD, h]
  rw [e]
  cases h1 : x.1.getLsbD a with
  | false => simp
  | true =>
    cases h2 : extrB l x a with
    | true => rw [trimStep_yes h h2]; simp
    | false => rw [trimStep_no h h2]; simp
noncomputable def lookN (l : List F) (i : Nat) : Nat → List F
  | 0 => l
  | a + 1 => lookStep i (lookN l i a) a
/-- Only attributes that are looked at go. -/
theorem trimN_keeps {i : Nat} : ∀ (ms : List Nat) (l : List F) (x : F), l[i]? = some x → ∃ s, (trimN l i ms)[i]? = some (s, x.2) ∧ ∀ b, b < 32 → b ∉ ms → s.getLsbD b = x.1.getLsbD b := by
  intro ms
  induction ms with
  | nil => intro l x h; exact ⟨x.1, h, fun _ _ _ => rfl⟩
  | cons a ms ih =>
    intro l x h
    have key : ∃ t, (trimStep i l a)[i]? = some (t, x.2) ∧ ∀ b, b < 32 → b ≠ a → t.getLsbD b = x.1.getLsbD b := by
      cases he : extrB l x a with
      | true =>
        rw [trimStep_yes h he]
        refine ⟨x.1 &&& ~~~ bit a, by rw [List.getElem?_set_self (List.getElem?_eq_some_iff.1 h).1], fun b hb hne => ?_⟩
        rw [less_get _ _ _ hb]; simp [hne]
      | false => rw [trimStep_no h he]; exact ⟨x.1, h, fun _ _ _ => rfl⟩
    obtain ⟨t, ht, htb⟩ := key
    obtain ⟨s, hs, hsb⟩ := ih (trimStep i l a) (t, x.2) ht
    refine ⟨s, hs, fun b hb hm => ?_⟩
    rw [List.mem_cons, not_or] at hm
    rw [hsb b hb hm.2, htb b hb hm.1]
theorem lookN_trim {l : List F} {i : Nat} {x : F} (h : l[i]? = some x) : ∀ m, m ≤ 32 → lookN l i m = trimN l i (memN x.1 m) := by
  intro m
  induction m with
  | zero => intro _; rfl
  | succ m ih =>
    intro hm
    have e : lookN l i (m + 1) = lookStep i (lookN l i m) m := rfl
    rw [e, ih (by omega)]
    obtain ⟨s, hs, hsb⟩ := trimN_keeps (memN x.1 m) l x h
    have hb := hsb m (by omega) (fun hmem => by have := (mem_memN.1 hmem).1; omega)
    unfold lookStep
    have e2 : (trimN l i (memN x.1 m)).getD i (0#32, 0#32) = (s, x.2) := by simp [List.getD, hs]
    rw [e2]
    cases hq : x.1.getLsbD m with
    | true => rw [if_pos (by rw [hb, hq]), memN_yes hq]; unfold trimN; rw [List.foldl_append]; rfl
    | false => rw [if_neg (by rw [hb, hq]; simp), memN_no hq]
theorem memN_full {s : S} {n : Nat} (hn : n ≤ 32) (h : sub s (fullN n)) : memN s n = memN s 32 := by
  have : ∀ m, n ≤ m → m ≤ 32 → memN s m = memN s n := by
    intro m
    induction m with
    | zero => intro h1 _; rw [show n = 0 by omega]
    | succ m ih =>
      intro h1 h2
      by_cases e : n = m + 1
      · rw [e]
      · rw [memN_no, ih (by omega) (by omega)]
        cases hq : s.getLsbD m with
        | false => rfl
        | true =>
          have := h m (by omega) hq
          rw [fullN_get n m (by omega), decide_eq_true_iff] at this; omega
  exact (this 32 hn (Nat.le_refl _)).symm
/-- All sides lie within a set. -/
def Within (n : Nat) (l : List F) : Prop := ∀ f ∈ l, sub f.1 (fullN n)
theorem within_trim {n : Nat} {l : List F} (h : Within n l) : ∀ k, Within n (trimF l k) := by
  intro k
  induction k with
  | zero => exact h
  | succ k ih =>
    intro f hf
    obtain ⟨j, hj, rfl⟩ := List.mem_iff_getElem.1 hf
    have hl : j < (trimF l k).length := by have e : (trimF l (k + 1)).length = (trimF l k).length := trimN_length _ _ _; omega
    by_cases hjk : j = k
    · subst hjk
      obtain ⟨s, hs, hss, _⟩ := trimN_at (lhsN (trimF l j) j) (trimF l j) _ (List.getElem?_eq_getElem hl)
      have e : (trimF l (j + 1))[j]? = some (s, (trimF l j)[j].2) := hs
      rw [List.getElem?_eq_getElem hj] at e
      rw [Option.some.inj e]
      exact sub_trans hss (ih _ (List.getElem_mem hl))
    · have e : (trimF l (k + 1))[j]? = (trimF l k)[j]? := trimN_other hjk _ _
      rw [List.getElem?_eq_getElem hj, List.getElem?_eq_getElem hl] at e
      rw [Option.some.inj e]
      exact ih _ (List.getElem_mem hl)
theorem valid_within {n : Int} {fs : List F} (h : validF n fs = 0) : 0 ≤ n ∧ n ≤ 16 ∧ fs.length ≤ 64 ∧ ∀ f ∈ fs, sub f.1 (fullN n.toNat) ∧ sub f.2 (fullN n.toNat) := by
  unfold validF at h
  by_cases h1 : n < 0 ∨ 16 < n
  · rw [if_pos h1] at h; cases h
  · rw [if_neg h1] at h
    by_cases h2 : 64 < fs.length
    · rw [if_pos h2] at h; cases h
    · rw [if_neg h2] at h
      refine ⟨by omega, by omega, by omega, fun f hf => ?_⟩
      cases h3 : fs.any (outF n.toNat) with
      | true => rw [if_pos h3] at h; cases h
      | false =>
        rw [List.any_eq_false] at h3
        have := h3 f hf
        rw [outF_sub] at this
        simpa using this
theorem within_split {n : Nat} {fs : List F} (h : ∀ f ∈ fs, sub f.1 (fullN n)) : Within n (splitF fs) := fun f hf => by
  obtain ⟨x, hx, hf⟩ := mem_splitF.1 hf
  obtain ⟨a, _, _, _, rfl⟩ := mem_splitX.1 hf
  exact h x hx
theorem lookN_length (l : List F) (i : Nat) : ∀ a, (lookN l i a).length = l.length := by
  intro a
  induction a with
  | zero => rfl
  | succ a ih =>
    have e : lookN l i (a + 1) = lookStep i (lookN l i a) a := rfl
    rw [e]; unfold lookStep; split
    · rw [trimStep_length, ih]
    · exact ih



end Go.Proofs.YtciamnkalmihcaaDoor

namespace Go.Proofs.YtciamnkalmihcaaDoor
open Go.RowKit

/-- The superfluous attributes below n. -/
noncomputable def extN (l : List F) (x : F) (n : Nat) : S := (memN x.1 n).foldl (extAdd l x) 0#32
theorem extN_32 (l : List F) (x : F) : extN l x 32 = extSet l x := rfl
theorem extN_step (l : List F) (x : F) (n : Nat) : extN l x (n + 1) = if (x.1.getLsbD n && extrB l x n) = true then extN l x n ||| bit n else extN l x n := by
  cases h : x.1.getLsbD n with
  | true =>
    unfold extN; rw [memN_yes h, List.foldl_append]
    show extAdd l x _ n = _
    unfold extAdd
    simp
  | false => unfold extN; rw [memN_no h]; simp
theorem extN_get (l : List F) (x : F) (i : Nat) (hi : i < 32) : ∀ n, n ≤ 32 → (extN l x n).getLsbD i = (decide (i < n) && (x.1.getLsbD i && extrB l x i)) := by
  intro n
  induction n with
  | zero => intro _; simp [extN, memN]
  | succ n ih =>
    intro hn
    rw [extN_step]
    by_cases hin : i = n
    · subst hin
      cases h : (x.1.getLsbD i && extrB l x i) with
      | true => rw [if_pos rfl, BitVec.getLsbD_or, bit_get i i hi]; simp
      | false => rw [if_neg (by simp), ih (by omega)]; simp
    · have e : decide (i < n + 1) = decide (i < n) := by rw [decide_eq_decide]; omega
      rw [e]
      split
      · rw [BitVec.getLsbD_or, bit_get n i hi, ih (by omega)]; simp [hin]
      · exact ih (by omega)
theorem extSet_hit {l : List F} {x : F} {a : Nat} (ha : a < 32) (h : (x.1.getLsbD a && extrB l x a) = true) : (extSet l x != 0#32) = true := by
  have := extN_get l x a ha 32 (Nat.le_refl _)
  rw [h, extN_32] at this
  simp only [bne_iff_ne, ne_eq]
  intro e
  rw [e] at this
  simp [ha] at this
theorem extSet_none {l : List F} {x : F} (h : ∀ a, a < 32 → (x.1.getLsbD a && extrB l x a) = false) : (extSet l x != 0#32) = false := by
  have e : extSet l x = 0#32 := by
    apply BitVec.eq_of_getLsbD_eq
    intro i hi
    rw [← extN_32, extN_get l x i hi 32 (Nat.le_refl _), h i hi]; simp
  rw [e]; rfl



end Go.Proofs.YtciamnkalmihcaaDoor

namespace Go.Proofs.YtciamnkalmihcaaDoor
open Go.RowKit

attribute [local irreducible] Go.wpQuiet

end Go.Proofs.YtciamnkalmihcaaDoor

namespace Go.Proofs.YtciamnkalmihcaaDoor
open Go.RowKit

theorem box_new (w : World) (x : F) : (w.alloc (.cells #[.int .u32 (iv x.1), .int .u32 (iv x.2)] 34)).ownsRow w.heap.size 34 2 (.slice (some ⟨w.heap.size, 0, none⟩) 1 1) 1 ([x].flatMap cF) :=
  World.ownsRow_lit (size := 2) (e := 34) w #[.int .u32 (iv x.1), .int .u32 (iv x.2)] 1 (Nat.le_refl _) (by decide) rfl
theorem box_set (s a b : S) : ([(s, a)].flatMap cF).set 1 (.int .u32 (iv b)) = [(s, b)].flatMap cF := rfl

set_option maxHeartbeats 1600000 in
set_option maxRecDepth 100000 in
theorem refMerge_any (fs : List F) (v : Value) (w : World) (hv : RdF w v fs) (hl : fs.length < 1099511627776) :
    Calls Tryd.prog 48 #[v] w fun e w' => ∃ v', e = .returned v' ∧ w'.ownsRow w.heap.size 34 2 v' (mergeF fs).length ((mergeF fs).flatMap cF) ∧ Below w.heap.size w w' := by
  obtain ⟨ao, cap, rfl, -, hc⟩ := hv.split
  have FC := hid hc
  have AO := hid (fun (xs : List S) (u : Value) (W : World) (h : RdE enc W u xs) (hh : xs.length < 17592186044416) => refOrder_any xs u W h hh)
  clear hv hc
  go_enter Tryd.func48, Tryd.ntmps48
  go_wp2_with fail
  go_loopw [3, 4] (fun u i wr => ∃ k : Nat, k ≤ fs.length ∧ i = .int .i64 k ∧ wr.ownsRow w.heap.size 25 1 u ((fs.take k).map (·.1)).length (((fs.take k).map (·.1)).map enc) ∧ Below w.heap.size w wr) (fun _ i _ => fs.length - (intOf i).toNat)
  case atStart => exact ⟨0, Nat.zero_le _, rfl, World.ownsRow_nil _ _ _ _, Below.refl _ _⟩
  case round =>
    obtain ⟨k, hk, rfl, hown, hnx⟩ := hrel
    have hsz := hnx.size
    by_cases hlt : k < fs.length
    · obtain ⟨f, hf⟩ := get_some hlt
      obtain ⟨b, off, rfl, hfc⟩ := FC.out k f hf
      obtain ⟨e0, e1⟩ := hfc wr hnx
      have N := hid (show (fs.take (k + 1)).map (·.1) = (fs.take k).map (·.1) ++ [f.1] by rw [take_next hf, List.map_append]; rfl)
      have hxl : ((fs.take k).map (·.1)).length ≤ k := by simp; omega
      clear hfc hf
      generalize (fs.take k).map (·.1) = xs at *
      go_wp2_with (at_builtin; refine wpList_push rfl _ _ 52 rfl w.heap.size 25 (.int .u32 0) 4 undSets infoSet rfl (by decide) enc (fun _ => rfl) _ xs rfl (hown.alloc _) ⟨wr.heap.size, 0, none⟩ f.1 rfl cell_new (by omega) (by simp; omega) ?_)
      intro v' w5 hown5 hgrow
      have hb5 := hid (below_push hnx hsz hown hgrow)
      have ho5 := hid hown5
      clear hgrow hown hnx hown5 e0 e1
      go_wp2_with fail
      go_roundw
      case rel => exact ⟨k + 1, by omega, by go_num, by rw [N.out]; simpa using ho5.out, hb5.out⟩
      case measure => simp [intOf]; omega
    · rw [take_all hlt] at hown
      have OS := hid (fun (ys : List S) (h : IsOrd ys (· ∈ fs.map (·.1))) => ordS_of h fun _ => Iff.rfl)
      have hxl : (fs.map (·.1)).length ≤ fs.length := by simp
      have MG := hid (show mergeF fs = (ordS (fs.map (·.1))).map fun s => (s, orOf fs s) from rfl)
      generalize fs.map (·.1) = xs at *
      have R := hid (RdE.of_owns hown (by omega))
      clear hown
      go_wp2_with fail
      refine (AO.out xs _ wr R.out (by omega)).mono ?_
      rintro e w2 ⟨v2, ys, rfl, ho2, hord, hyl, hb2⟩
      have hys := OS.out ys hord
      have B2 := hid (hnx.trans (hb2.mono hsz))
      have R2 := hid (RdE.of_owns ho2 (by omega))
      have MG2 := hid (MG.out.trans (by rw [← hys]))
      obtain ⟨yo, ycap, rfl, -, hyc⟩ := R2.out.split
      have YC := hid hyc
      clear ho2 hord hb2 hnx hyc hys MG R
      have hs2 := B2.out.size
      go_wp2_with fail
      go_loopw [5, 6] (fun u i wr => ∃ j : Nat, j ≤ ys.length ∧ i = .int .i64 j ∧ wr.ownsRow w2.heap.size 34 2 u ((ys.take j).map fun s => (s, orOf fs s)).length (((ys.take j).map fun s => (s, orOf fs s)).flatMap cF) ∧ Below w2.heap.size w2 wr) (fun _ i _ => ys.length - (intOf i).toNat)
      case atStart => exact ⟨0, Nat.zero_le _, rfl, World.ownsRow_nil _ _ _ _, Below.refl _ _⟩
      case round =>
        obtain ⟨j, hj, rfl, hown, hnx⟩ := hrel
        obtain ⟨wo, rfl⟩ : ∃ wo : World, wo = wr := ⟨_, rfl⟩
        have hsz := hnx.size
        have hll : ((ys.take j).map fun s => (s, orOf fs s)).length ≤ j := by simp; omega
        by_cases hjl : j < ys.length
        · obtain ⟨s, hs⟩ := get_some hjl
          obtain ⟨yb, yoff, rfl, hyc⟩ := YC.out j s hs
          have ec : wo.cell? ⟨yb, yoff + j, none⟩ = some (.int .u32 (iv s)) := hyc wo hnx
          have N := hid (show (ys.take (j + 1)).map (fun s => (s, orOf fs s)) = (ys.take j).map (fun s => (s, orOf fs s)) ++ [(s, orOf fs s)] by rw [take_next hs, List.map_append]; rfl)
          have YW := hid (fun (W : World) (h : Below wo.heap.size wo W) => show W.cell? ⟨yb, yoff + j, none⟩ = some (.int .u32 (iv s)) from hyc W (hnx.trans (h.mono hnx.size)))
          have FW := hid (fun (W : World) (h : Below wo.heap.size wo W) => B2.out.trans ((hnx.trans (h.mono hnx.size)).mono hs2))
          have BX := hid (box_new wo (s, 0#32))
          have BB := hid (below_alloc wo (.cells #[.int .u32 (iv s), .int .u32 (iv 0#32)] 34))
          have HO := hid hown
          have HN := hid hnx
          have j0 : (0 : Int) ≤ (j : Int) := by omega
          have j1 : (j : Int) < (ys.length : Int) := by omega
          clear hyc hs hown hnx
          generalize (ys.take j).map (fun s => (s, orOf fs s)) = out at *
          go_wp2_with fail
          go_loopw [8] (fun i wr => ∃ q : Nat, q ≤ fs.length ∧ i = .int .i64 q ∧ wr.ownsRow wo.heap.size 34 2 (.slice (some ⟨wo.heap.size, 0, none⟩) 1 1) 1 ([(s, orOf (fs.take q) s)].flatMap cF) ∧ Below wo.heap.size wo wr) (fun i _ => fs.length - (intOf i).toNat)
          case atStart => exact ⟨0, Nat.zero_le _, rfl, BX.out, BB.out⟩
          case round =>
            obtain ⟨q, hq, rfl, hbox, hnb⟩ := hrel
            have hszb := hnb.size
            obtain ⟨c0, c1⟩ := cells_own (i := 0) (x := (s, orOf (fs.take q) s)) hbox rfl rfl
            by_cases hql : q < fs.length
            · obtain ⟨f, hf⟩ := get_some hql
              obtain ⟨b, off, he, hfc⟩ := FC.out q f hf
              cases he
              obtain ⟨e0, e1⟩ := hfc wr (FW.out wr hnb)
              have e2 := YW.out wr hnb
              have ON := hid (orOf_next hf s)
              have q0 : (0 : Int) ≤ (q : Int) := by omega
              have q1 : (q : Int) < (fs.length : Int) := by omega
              have HC := hid hfc
              clear hfc hf
              generalize orOf (fs.take q) s = acc at *
              cases hc : (f.1 == s) with
              | true =>
                have hfs : f.1 = s := by simpa using hc
                have hd : (iv f.1 == iv s) = true := by rw [hfs]; simp
                have ON2 := hid (ON.out.trans (if_pos hfs))
                have HB := hid hbox
                have NB := hid hnb
                clear hc ON hfs hbox hnb
                go_wp2_with fail
                go_quiet (fail)
                go_wp2_with fail
                obtain ⟨w3, hw3⟩ : ∃ w3 : World, wr.drewN nq = w3 := ⟨_, rfl⟩
                have hb3 : w3.ownsRow wo.heap.size 34 2 (.slice (some ⟨wo.heap.size, 0, none⟩) 1 1) 1 ([(s, acc)].flatMap cF) := by rw [← hw3]; exact own_below HB.out (below_drewN wr.heap.size wr nq)
                have hn3 : Below wo.heap.size wo w3 := by rw [← hw3]; exact below_drewN' NB.out nq
                clear e0 e1 e2 c0 c1 HB NB
                obtain ⟨e0, e1⟩ := HC.out w3 (FW.out w3 hn3)
                obtain ⟨c0, c1⟩ := cells_own (i := 0) (x := (s, acc)) hb3 rfl rfl
                have hfz : w3.frozen? ⟨wo.heap.size, 1, none⟩ = false := hb3.frozenAt _
                have hszb := hn3.size
                rw [hw3]
                clear hw3
                go_still_tail 9, (by kernel_rfl)
                have ST := hb3.stored 1 (.int .u32 (iv (acc ||| f.2)))
                rw [box_set] at ST
                have S1 := hid ST.1
                have S2 := hid (hn3.setCell (p := ⟨wo.heap.size, 1, none⟩) (Nat.le_refl _) (.int .u32 (iv (acc ||| f.2))))
                clear ST hb3 hn3
                go_wp2_with fail
                go_roundw
                case rel => exact ⟨q + 1, by omega, by go_num, by rw [ON2.out]; exact S1.out.drew, S2.out.drew⟩
                case measure => simp [intOf]; omega
              | false =>
                have hfs : ¬ f.1 = s := by simpa using hc
                have hd : (iv f.1 == iv s) = false := by rw [beq_eq_false_iff_ne]; intro h; exact hfs (iv_inj h)
                have ON2 := hid (ON.out.trans (if_neg hfs))
                clear hc ON
                go_wp2_with fail
                go_quiet (fail)
                go_wp2_with fail
                go_roundw
                case rel => exact ⟨q + 1, by omega, by go_num, by rw [ON2.out]; exact own_below hbox (below_drewN _ _ _), below_drewN' hnb _⟩
                case measure => simp [intOf]; omega
            · rw [take_all hql] at hbox c0 c1
              have hown3 := own_below HO.out hnb
              have hnx3 := HN.out.trans (hnb.mono HN.out.size)
              have hs3 := hnx3.size
              clear hbox ec
              generalize orOf fs s = acc at *
              go_wp2_with (at_builtin; refine wpList_pushC rfl _ _ 27 rfl w2.heap.size 34 (.agg #[.int .u32 0, .int .u32 0]) 2 8 undFDs infoFD rfl (by decide) (by decide) cF cF_length cF_one _ out rfl (hown3.alloc _) ⟨wr.heap.size, 0, none⟩ (s, acc) rfl (cells_newF _ (s, acc)) (by omega) (by simp; omega) ?_)
              intro v' w4 hown' hgrow
              have hb4 : Below w2.heap.size w2 w4 := below_push hnx3 hs3 hown3 hgrow
              clear hgrow hown3 hnx3 c0 c1
              go_wp2_with fail
              go_roundw
              case rel => exact ⟨j + 1, by omega, by go_num, by rw [N.out]; simpa using hown', hb4⟩
              case measure => simp [intOf]; omega
        · rw [take_all hjl, ← MG2.out] at hown
          have OO := hid (own_mono hown hs2)
          have BB := hid (B2.out.trans (hnx.mono hs2))
          clear hown hnx
          go_wp2_with fail
          go_ret
          exact ⟨_, rfl, OO.out, BB.out⟩


end Go.Proofs.YtciamnkalmihcaaDoor
