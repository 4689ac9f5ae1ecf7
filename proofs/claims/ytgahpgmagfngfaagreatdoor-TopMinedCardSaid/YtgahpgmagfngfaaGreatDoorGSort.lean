/- Texts that belong together, in one file. -/
import Derived.Test.YtgahpgmagfngfaaGreatDoorGWalk
import Derived.Sort.OwnSorted
import Derived.Test.YtgahpgmagfngfaaGreatDoorSort
import Derived.Test.YtgahpgmagfngfaaGreatDoorGOrd
import Derived.Test.YtgahpgmagfngfaaGreatDoorComp
import Derived.StillTailTactics
/- The walks of attrset's order of sets: Size, cmp.Or, compare. -/
namespace Go.Proofs.YtgahpgmagfngfaaGreatDoor
open Go.RowKit

/-- Size. -/
theorem asize_any (s : S) (w : World) :
    Calls Tryz.prog 106 #[enc s] w fun e w' => e = .returned (.int .i64 (pop s : Nat)) ∧ ∃ q, w' = w.drewN q := by
  have C := hid (ones_any s)
  unfold enc at *
  go_enter Tryz.func106, Tryz.ntmps106
  go_wp2_with fail
  refine (C.out _).mono ?_
  rintro e w' ⟨rfl, q, rfl⟩
  go_wp2_with fail
  go_ret
  exact ⟨rfl, q, rfl⟩

/-- cmp.Or of two numbers. -/
theorem or_any (x y : Int) (b : Nat) (w : World) (h0 : w.cell? ⟨b, 0, none⟩ = some (.int .i64 x)) (h1 : w.cell? ⟨b, 1, none⟩ = some (.int .i64 y)) :
    Calls Tryz.prog 42 #[.slice (some ⟨b, 0, none⟩) 2 2] w fun e w' => e = .returned (.int .i64 (if x ≠ 0 then x else y)) ∧ w = w' := by
  obtain ⟨r, hr⟩ : ∃ r, (if x ≠ 0 then x else y) = r := ⟨_, rfl⟩
  rw [hr]
  have R := hid hr
  clear hr
  go_enter Tryz.func42, Tryz.ntmps42
  go_wp2_with fail
  go_loop [8] (fun i => ∃ k : Nat, k ≤ 2 ∧ i = .int .i64 k ∧ Hid ((1 ≤ k → x = 0) ∧ (2 ≤ k → y = 0))) (fun i => 2 - (intOf i).toNat)
  case atStart => exact ⟨0, by omega, rfl, hid ⟨by omega, by omega⟩⟩
  case round =>
    obtain ⟨k, hk, rfl, H⟩ := hrel
    rcases (show k = 0 ∨ k = 1 ∨ k = 2 by omega) with rfl | rfl | rfl
    · cases hx : (x != (0 : Int)) with
      | true =>
        go_wp2_with fail
        go_ret
        exact ⟨by rw [← R.out, if_pos (by simpa using hx)]; rfl, rfl⟩
      | false =>
        have X := hid (show x = 0 by simpa using hx)
        go_wp2_with fail
        go_round
        case rel => exact ⟨1, by omega, rfl, hid ⟨fun _ => X.out, by omega⟩⟩
        case measure => simp [intOf]
    · cases hy : (y != (0 : Int)) with
      | true =>
        go_wp2_with fail
        go_ret
        exact ⟨by rw [← R.out, if_neg (by rw [H.out.1 (by omega)]; simp)]; rfl, rfl⟩
      | false =>
        have Y := hid (show y = 0 by simpa using hy)
        go_wp2_with fail
        go_round
        case rel => exact ⟨2, by omega, rfl, hid ⟨fun _ => H.out.1 (by omega), fun _ => Y.out⟩⟩
        case measure => simp [intOf]
    · go_wp2_with fail
      go_ret
      exact ⟨by rw [← R.out, if_neg (by rw [H.out.1 (by omega)]; simp), H.out.2 (by omega)]; rfl, rfl⟩

theorem cell_two {w : World} {u v : Value} {t : TypeId} : (w.alloc (.cells #[u, v] t)).cell? ⟨w.heap.size, 0, none⟩ = some u ∧ (w.alloc (.cells #[u, v] t)).cell? ⟨w.heap.size, 1, none⟩ = some v := by simp
theorem compare_any (a b : S) (w : World) :
    Calls Tryz.prog 101 #[enc a, enc b] w fun e w' => e = .returned (.int .i64 (cmpS a b)) ∧ ∃ q os, w' = Sort.grow (w.drewN q) os := by
  have c1 := fun w => asize_any a w
  have c2 := fun w => asize_any b w
  have c3 := fun w => cmpInt_any (pop a : Nat) (pop b : Nat) w
  have c4 := fun w => cmpSet_any a b w
  have C1 := hid c1; have C2 := hid c2; have C3 := hid c3; have C4 := hid c4
  clear c1 c2 c3 c4
  have e : cmpS a b = if cmpI (pop a) (pop b) ≠ 0 then cmpI (pop a) (pop b) else cmpI (iv a) (iv b) := rfl
  have C5 := hid (or_any (cmpI (pop a) (pop b)) (cmpI (iv a) (iv b)))
  rw [← e] at C5
  clear e
  unfold enc at *
  generalize cmpS a b = r at *
  generalize cmpI (pop a) (pop b) = x at *
  generalize cmpI (iv a) (iv b) = y at *
  go_enter Tryz.func101, Tryz.ntmps101
  go_wp2_with fail
  refine (C1.out _).mono ?_
  rintro e w' ⟨rfl, q1, rfl⟩
  go_wp2_with fail
  refine (C2.out _).mono ?_
  rintro e w' ⟨rfl, q2, rfl⟩
  go_wp2_with fail
  refine (C3.out _).mono ?_
  rintro e w' ⟨rfl, rfl⟩
  go_wp2_with fail
  refine (C4.out _).mono ?_
  rintro e w' ⟨rfl, rfl⟩
  go_wp2_with fail
  refine (C5.out w.heap.size ((w.drewN (q1 + q2)).alloc (.cells #[.int .i64 x, .int .i64 y] 3)) (cell_two (w := w.drewN (q1 + q2))).1 (cell_two (w := w.drewN (q1 + q2))).2).mono ?_
  rintro e w' ⟨rfl, rfl⟩
  go_wp2_with fail
  go_ret
  exact ⟨rfl, q1 + q2, _, by rw [← Sort.alloc_eq_grow]⟩

end Go.Proofs.YtgahpgmagfngfaaGreatDoor


/- slices.SortFunc over a slice of sets of the call's own, with any comparison that gives the order of sets: the row holds the sorted list. -/
namespace Go.Proofs.YtgahpgmagfngfaaGreatDoor
open Go.RowKit Go.Shelf Go.Lib Go.Sort

section
variable {α : Type} [Inhabited α] {f : α → Value}
theorem holds_row {w : World} {g : Nat} {cur : Array Value} {e : TypeId} {xs : List α} (hb : w.heap[g]? = some (.cells cur e (0, 0))) (ht : cur.toList.take xs.length = xs.map f) : Holds f w g 0 xs.toArray := by
  intro j hj
  have hj' : j < xs.length := by simpa using hj
  refine ⟨?_, by simp [World.frozen?, hb]⟩
  have h1 : (cur.toList.take xs.length)[j]? = (xs.map f)[j]? := by rw [ht]
  rw [List.getElem?_take_of_lt hj'] at h1
  simp only [World.cell?, hb, Nat.zero_add]
  simp [hj'] at h1
  simp [h1, hj']
theorem row_heap {w : World} {g n : Nat} {os : Array Obj} {cur : Array Value} {e : TypeId} {fr : Nat × Nat} (d : Array α) (hb : w.heap[g]? = some (.cells cur e fr)) :
    (grow (putRow f (Sort.ahead w n) g 0 d) os).heap[g]? = some (.cells (putCells f 0 d cur) e fr) := by
  have hg : g < w.heap.size := (Array.getElem?_eq_some_iff.1 hb).1
  rw [heap_grow_old _ _ (by simpa using hg)]
  simp [putRow, mapBlock, Sort.ahead, Array.getElem?_modify, hb, onCells]
theorem row_grown {w : World} {g n : Nat} {os : Array Obj} (d : Array α) : w.grownBy (grow (putRow f (Sort.ahead w n) g 0 d) os) (some g) := by
  refine ⟨rfl, rfl, rfl, by simp, fun k hk hne => ?_⟩
  rw [heap_grow_old _ _ (by simpa using hk)]
  have : g ≠ k := fun e => hne (by rw [e])
  simp [putRow, mapBlock, Sort.ahead, Array.getElem?_modify, this]
theorem row_take (cur : Array Value) (ts : List α) (h : ts.length ≤ cur.size) : (putCells f 0 ts.toArray cur).toList.take ts.length = ts.map f := by
  apply List.ext_getElem?
  intro j
  by_cases hj : j < ts.length
  · rw [List.getElem?_take_of_lt hj, Array.getElem?_toList]
    simp [putCells, hj, show j < cur.size by omega]
  · rw [List.getElem?_take_eq_none (by omega), List.getElem?_eq_none (by simp; omega)]
theorem row_owns {w : World} {base g cap n : Nat} {e : TypeId} {os : Array Obj} {cur : Array Value} {ss ts : List α} (hl : ts.length = ss.length) (hbase : base ≤ g) (hb : w.heap[g]? = some (.cells cur e (0, 0)))
    (h1 : ss.length ≤ cap) (h2 : cap ≤ maxLen) (h3 : cur.size = cap * 1) :
    (grow (putRow f (Sort.ahead w n) g 0 ts.toArray) os).ownsRow base e 1 (.slice (some ⟨g, 0, none⟩) ss.length cap) ss.length (ts.map f) :=
  ⟨by simp [hl], .inr ⟨g, cap, _, rfl, hbase, row_heap _ hb, h1, h2, by simp [putCells, h3], by rw [Nat.mul_one, ← hl]; exact row_take cur ts (by omega)⟩⟩
end

theorem lt_cmpS (x y : S) : ltOf cmpS x y = decide (bef x y) := decide_eq_decide.2 Iff.rfl
theorem swoS : SWO (ltOf cmpS) where
  irrefl x := by rw [lt_cmpS]; simp [bef_irrefl]
  trans x y z h1 h2 := by rw [lt_cmpS] at *; simp at *; exact bef_trans h1 h2
  ntrans x y z h1 h2 := by rw [lt_cmpS] at *; simp at *; rw [bef_iff] at *; omega

theorem sortBy_any (g0 : Nat) (eg : ∀ args w, (callFunc g0 args).run Tryz.prog w = .ok (.enter g0 args) w)
    (hc : ∀ (x y : S) (W : World), Calls Tryz.prog g0 #[enc x, enc y] W fun e w' => e = .returned (.int .i64 (cmpS x y)) ∧ ∃ q os, w' = Sort.grow (W.drewN q) os)
    (xs : List S) (v : Value) (B : Nat) (w : World) (hown : w.ownsRow B 55 1 v xs.length (xs.map enc)) (hl : xs.length < 17592186044416) :
    Calls Tryz.prog 100 #[v, .func (.func g0) #[] #[]] w fun e w' =>
      e = .returned (.tuple #[]) ∧ w'.ownsRow B 55 1 v xs.length ((sortS xs).map enc) ∧ Below B w w' := by
  rcases hown.2 with ⟨rfl, hn⟩ | ⟨g, cap, cur, rfl, hB, hg, hnc, hcm, hcs, htake⟩
  · have hx : xs = [] := List.eq_nil_of_length_eq_zero hn
    subst hx
    refine (AnyF.slices_SortFunc_none { Tryz.sortS with } none 0 _ w).mono fun e w' ⟨he, hw⟩ => ?_
    subst hw
    exact ⟨he, by simpa [sortS] using hown, Below.refl _ _⟩
  · have htk : cur.toList.take xs.length = xs.map enc := by simpa using htake
    have hlt : g < w.heap.size := (Array.getElem?_eq_some_iff.1 hg).1
    have hcmp : CmpLays1 Tryz.prog g0 #[] enc cmpS g 0 xs.toArray.size w := fun m os dk hs x y => hc x y _
    have h := Any.slices_SortFunc_total Tryz.sortS enc (fun _ => rfl) cmpS swoS g0 #[] g 0 cap xs.toArray w
      eg hcmp (holds_row hg htk) hlt (by simp; omega)
      (fun x y h1 h2 => bef_total (by simpa [lt_cmpS] using h1) (by simpa [lt_cmpS] using h2))
    have e1 : (xs.toArray.toList.mergeSort fun x y => !ltOf cmpS y x) = sortS xs := by simp only [lt_cmpS]; rfl
    rw [e1] at h
    have h' : Calls Tryz.prog 100 #[.slice (some ⟨g, 0, none⟩) xs.length cap, .func (.func g0) #[] #[]] w _ := h
    refine h'.mono fun e w' ⟨he, n, os, hw⟩ => ?_
    subst hw
    refine ⟨he, row_owns (sortS_perm xs).length_eq hB hg hnc hcm hcs, ?_⟩
    exact (Below.refl B w).grown (row_grown _) (by omega) (fun k hk => by cases hk; exact hB)

end Go.Proofs.YtgahpgmagfngfaaGreatDoor


/- slices.SortFunc over a slice of sets of the call's own, with attrset's order. -/
namespace Go.Proofs.YtgahpgmagfngfaaGreatDoor
open Go.RowKit Go.Shelf Go.Lib Go.Sort

theorem sortA_any (xs : List S) (v : Value) (B : Nat) (w : World) (hown : w.ownsRow B 55 1 v xs.length (xs.map enc)) (hl : xs.length < 17592186044416) :
    Calls Tryz.prog 100 #[v, .func (.func 101) #[] #[]] w fun e w' =>
      e = .returned (.tuple #[]) ∧ w'.ownsRow B 55 1 v xs.length ((sortS xs).map enc) ∧ Below B w w' :=
  sortBy_any _ (enters _ _ _ Tryz.func101 (by kernel_rfl) rfl) compare_any xs v B w hown hl

end Go.Proofs.YtgahpgmagfngfaaGreatDoor


/- slices.Compact over a row of sets of the call's own, and attrset's Order: the different sets in order. -/
namespace Go.Proofs.YtgahpgmagfngfaaGreatDoor
open Go.RowKit Go.Shelf Go.Lib Go.Sort

theorem eqlS (T : TypeId) : EqlAt Tryz.prog T enc (fun x y => decide (x = y)) :=
  ⟨fun x y w => ((EqlAt.intD Tryz.prog T .u32).1 (iv x) (iv y) w).trans (by
    have e : decide (iv x = iv y) = decide (x = y) := decide_eq_decide.2 ⟨iv_inj, fun h => by rw [h]⟩
    simp only [e]), fun op a b x y w => (EqlAt.intD Tryz.prog T .u32).2 op a b (iv x) (iv y) w⟩
theorem neqS (T : TypeId) : NeqAt Tryz.prog T enc (fun x y => decide (x = y)) :=
  ⟨fun x y w => ((NeqAt.intD Tryz.prog T .u32).1 (iv x) (iv y) w).trans (by
    have e : decide (iv x = iv y) = decide (x = y) := decide_eq_decide.2 ⟨iv_inj, fun h => by rw [h]⟩
    simp only [e]), fun op a b x y w => (NeqAt.intD Tryz.prog T .u32).2 op a b (iv x) (iv y) w⟩

theorem compact_any (xs : List S) (v : Value) (B : Nat) (w : World) (hown : w.ownsRow B 55 1 v xs.length (xs.map enc)) (hl : xs.length < 17592186044416) :
    Calls Tryz.prog 102 #[v] w fun e w' => ∃ v', e = .returned v' ∧ w'.ownsRow B 55 1 v' (compact xs).length ((compact xs).map enc) ∧ Below B w w' := by
  rcases hown.2 with ⟨rfl, hn⟩ | ⟨g, cap, cur, rfl, hB, hg, hnc, hcm, hcs, htake⟩
  · have hx : xs = [] := List.eq_nil_of_length_eq_zero hn
    subst hx
    clear hown hn hl
    go_enter Tryz.func102, Tryz.ntmps102
    go_wp2_with fail
    go_ret
    exact ⟨_, rfl, World.ownsRow_nil _ _ _ _, Below.refl _ _⟩
  · have htk : cur.toList.take xs.length = xs.map enc := by simpa using htake
    have h := AnyE.slices_Compact Tryz.compS enc (fun _ => rfl) (eqlS _) (neqS _) 0#32 (fun w => Tryz.zeroValue55 w) g 0 cap xs.toArray w (holds_row hg htk) (by simp; omega) (by simpa using hnc)
    have h' : Calls Tryz.prog 102 #[.slice (some ⟨g, 0, none⟩) xs.length cap] w _ := h
    refine h'.mono fun e w' ⟨he, q, hw⟩ => ?_
    have hcl := compact_length xs
    have hc : compactUpTo xs.toArray xs.toArray.size = compact xs := by simp [compact]
    rw [hc] at he hw
    generalize hys : compact xs = ys at *
    refine ⟨_, he, ?_, ?_⟩
    · have hlen : (ys ++ List.replicate (xs.toArray.size - ys.length) 0#32).length = xs.length := by simp; omega
      have hr := row_owns (f := enc) (n := q) (e := 55) (os := #[]) (ss := xs) (ts := ys ++ List.replicate (xs.toArray.size - ys.length) 0#32) hlen hB hg hnc hcm hcs
      rw [grow_empty, ← hw] at hr
      rcases hr.2 with ⟨h1, _⟩ | ⟨g', cap', cur', hv, hB', hg', hnc', hcm', hcs', htake'⟩
      · cases h1
      · simp only [Value.slice.injEq, Option.some.injEq, Addr.mk.injEq] at hv
        obtain ⟨⟨rfl, -, -⟩, -, rfl⟩ := hv
        refine ⟨by simp, .inr ⟨g, cap, cur', rfl, hB', hg', by omega, hcm', hcs', ?_⟩⟩
        have := congrArg (List.take ys.length) htake'
        rw [List.take_take, List.map_append, List.take_append_of_le_length (by simp), Nat.mul_one, Nat.min_eq_left hcl] at this
        rw [Nat.mul_one, this, List.take_of_length_le (by simp)]
    · have hgr := row_grown (w := w) (g := g) (n := q) (os := #[]) (f := enc) (ys ++ List.replicate (xs.toArray.size - ys.length) 0#32).toArray
      rw [grow_empty, ← hw] at hgr
      exact (Below.refl B w).grown hgr (by have := (Array.getElem?_eq_some_iff.1 hg).1; omega) (fun k hk => by cases hk; exact hB)

/-- Order. -/
theorem aorder_any (xs : List S) (v : Value) (w : World) (hv : RdE enc w v xs) (h44 : xs.length < 17592186044416) :
    Calls Tryz.prog 65 #[v] w fun e w' => ∃ v' ys, e = .returned v' ∧ w'.ownsRow w.heap.size 55 1 v' ys.length (ys.map enc) ∧ IsOrd ys (· ∈ xs) ∧ ys.length ≤ xs.length ∧ Below w.heap.size w w' := by
  have C1 := hid (clone_any xs v w hv h44)
  have C2 := hid (fun (v : Value) (W : World) (ho : W.ownsRow w.heap.size 55 1 v xs.length (xs.map enc)) => sortA_any xs v w.heap.size W ho h44)
  have hsl := (sortS_perm xs).length_eq
  have C3 := hid (fun (v : Value) (W : World) (ho : W.ownsRow w.heap.size 55 1 v (sortS xs).length ((sortS xs).map enc)) => compact_any (sortS xs) v w.heap.size W ho (by omega))
  have O := hid (compact_ord (sortS_sorted xs))
  have L := hid (compact_length (sortS xs))
  have SL := hid hsl
  have PM := hid (fun s => (sortS_perm xs).mem_iff (a := s))
  obtain ⟨ao, cap, rfl, -⟩ := hv
  clear hsl h44
  go_enter Tryz.func65, Tryz.ntmps65
  go_wp2_with fail
  refine C1.out.mono ?_
  rintro e w1 ⟨v1, rfl, hown1, hb1⟩
  go_wp2_with fail
  refine (C2.out v1 w1 hown1).mono ?_
  rintro e w2 ⟨rfl, hown2, hb2⟩
  rw [← SL.out] at hown2
  have B2 := hid (hb1.trans hb2)
  clear hb1 hb2 hown1
  go_wp2_with fail
  refine (C3.out v1 w2 hown2).mono ?_
  rintro e w3 ⟨v3, rfl, hown3, hb3⟩
  have B3 := hid (B2.out.trans hb3)
  clear hb3 hown2
  go_wp2_with fail
  go_ret
  exact ⟨_, _, rfl, hown3, O.out.congr PM.out, by have := L.out; have := SL.out; omega, B3.out⟩

end Go.Proofs.YtgahpgmagfngfaaGreatDoor


/- The walks of transversal's small functions and their references. -/
namespace Go.Proofs.YtgahpgmagfngfaaGreatDoor
open Go.RowKit

/-- Same. -/
theorem same_any (xs ys : List S) (v u : Value) (w : World) (hv : RdE enc w v xs) (hu : RdE enc w u ys) :
    Calls Tryz.prog 15 #[v, u] w fun e w' => e = .returned (.bool (decide (xs = ys))) ∧ ∃ q, w' = w.drewN q := by
  obtain ⟨ao, cap, rfl, h1, h2, h3⟩ := hv
  obtain ⟨bo, cbp, rfl, g1, g2, g3⟩ := hu
  by_cases hl : xs.length = ys.length
  · have hne : ((xs.length : Int) != (ys.length : Int)) = false := by simp [hl]
    go_enter Tryz.func15, Tryz.ntmps15
    go_wp2
    go_loopw [5] (fun i wr => ∃ k q : Nat, k ≤ xs.length ∧ i = .int .i64 k ∧ wr = w.drewN q ∧ Hid (xs.take k = ys.take k)) (fun i _ => xs.length - (intOf i).toNat)
    case atStart => exact ⟨0, 0, Nat.zero_le _, rfl, rfl, hid rfl⟩
    case round =>
      obtain ⟨k, q, hk, rfl, rfl, H⟩ := hrel
      by_cases hlt : k < xs.length
      · obtain ⟨b, off, rfl, hb, hc⟩ := h3 (by omega)
        obtain ⟨b', off', rfl, hb', hc'⟩ := g3 (by omega)
        obtain ⟨x, hx⟩ := get_some hlt
        obtain ⟨y, hy⟩ := get_some (show k < ys.length by omega)
        have e1 := hc k x hx
        have e2 := hc' k y hy
        unfold enc at e1 e2
        clear hc hc' h3 g3
        have X := hid hx
        have Y := hid hy
        clear hx hy
        go_wp2
        go_quiet (fail)
        go_wp2
        · have hn : (x != y) = true := by assumption
          go_ret
          refine ⟨ret_bool ?_, _, World.drewN_drewN _ _ _⟩
          symm; rw [decide_eq_false_iff_not]
          rintro rfl
          have := X.out.symm.trans Y.out
          simp at this; simp [this] at hn
        · have hn : (x != y) = false := by assumption
          go_roundw
          case rel => exact ⟨k + 1, _, by omega, by go_num, rfl, hid (by rw [take_next X.out, take_next Y.out, H.out]; simp at hn; rw [hn])⟩
          case measure => simp [intOf]; omega
      · go_wp2
        go_ret
        refine ⟨ret_bool ?_, _, rfl⟩
        symm; rw [decide_eq_true_iff]
        have := H.out
        rwa [take_all hlt, take_all (by omega)] at this
  · have hne : ((xs.length : Int) != (ys.length : Int)) = true := by simp; omega
    go_enter Tryz.func15, Tryz.ntmps15
    go_wp2
    go_ret
    refine ⟨ret_bool ?_, 0, rfl⟩
    symm; rw [decide_eq_false_iff_not]
    rintro rfl; exact hl rfl


/-- IndexFunc at a function value that reads only. -/
theorem indexFunc_any (g : Nat) (cb : Array Value) (p : S → Bool) (xs : List S) (v : Value) (w : World) (hv : RdE enc w v xs)
    (eg : ∀ (args : Array Value) (w : World), (callFunc g args).run Tryz.prog w = .ok (.enter g args) w)
    (hg : ∀ x : S, Calls Tryz.prog g (#[enc x] ++ cb) w fun e w' => e = .returned (.bool (p x)) ∧ w = w') :
    Calls Tryz.prog 107 #[v, .func (.func g) #[] cb] w fun e w' => ∃ n : Int, e = .returned (.int .i64 n) ∧ decide (0 ≤ n) = xs.any p ∧ w = w' := by
  obtain ⟨ao, cap, rfl, h1, h2, h3⟩ := hv
  unfold enc at h3 hg
  have G := hid hg
  clear hg
  go_enter Tryz.func107, Tryz.ntmps107
  go_wp2
  go_loop [5, 8] (fun _ i => ∃ k : Nat, k ≤ xs.length ∧ i = .int .i64 k ∧ Hid ((xs.take k).any p = false)) (fun _ i => xs.length - (intOf i).toNat)
  case atStart => exact ⟨0, Nat.zero_le _, rfl, hid rfl⟩
  case round =>
    obtain ⟨k, hk, rfl, H⟩ := hrel
    by_cases hlt : k < xs.length
    · obtain ⟨b, off, rfl, hb, hc⟩ := h3 (by omega)
      obtain ⟨x, hx⟩ := get_some hlt
      have e1 := hc k x hx
      clear hc h3
      have X := hid hx
      clear hx
      cases hp : p x with
      | true =>
        have P1 := hid hp
        clear hp
        go_wp2_with (go_at_fn g; refine (G.out x).mono ?_; rw [P1.out]; rintro e w' ⟨rfl, rfl⟩)
        go_ret
        exact ⟨_, rfl, by rw [any_hit X.out P1.out]; simp, rfl⟩
      | false =>
        have P1 := hid hp
        clear hp
        go_wp2_with (go_at_fn g; refine (G.out x).mono ?_; rw [P1.out]; rintro e w' ⟨rfl, rfl⟩)
        go_round
        case rel => exact ⟨k + 1, by omega, by go_num, hid (none_next X.out P1.out H.out)⟩
        case measure => simp [intOf]; omega
    · go_wp2
      go_ret
      exact ⟨_, rfl, by rw [any_end H.out hlt]; rfl, rfl⟩

theorem containsFunc_any (g : Nat) (cb : Array Value) (p : S → Bool) (xs : List S) (v : Value) (w : World) (hv : RdE enc w v xs)
    (eg : ∀ (args : Array Value) (w : World), (callFunc g args).run Tryz.prog w = .ok (.enter g args) w)
    (hg : ∀ x : S, Calls Tryz.prog g (#[enc x] ++ cb) w fun e w' => e = .returned (.bool (p x)) ∧ w = w') :
    Calls Tryz.prog 68 #[v, .func (.func g) #[] cb] w fun e w' => e = .returned (.bool (xs.any p)) ∧ w = w' := by
  have G := hid (indexFunc_any g cb p xs v w hv eg hg)
  clear hg eg
  obtain ⟨ao, cap, rfl, -⟩ := hv
  go_enter Tryz.func68, Tryz.ntmps68
  go_wp2_with fail
  refine G.out.mono ?_
  rintro e w' ⟨n, rfl, hn, rfl⟩
  have N := hid hn
  clear hn
  go_wp2_with fail
  go_ret
  exact ⟨ret_bool N.out, rfl⟩

/-! The closures: each reads what it has captured. -/






end Go.Proofs.YtgahpgmagfngfaaGreatDoor


/- The walk of transversal's order of sets. -/
namespace Go.Proofs.YtgahpgmagfngfaaGreatDoor
open Go.RowKit


end Go.Proofs.YtgahpgmagfngfaaGreatDoor


/- slices.SortFunc over a slice of sets of the call's own, with transversal's order. -/
namespace Go.Proofs.YtgahpgmagfngfaaGreatDoor
open Go.RowKit Go.Shelf Go.Lib Go.Sort


end Go.Proofs.YtgahpgmagfngfaaGreatDoor


/- The walk of transversal.Reduce. -/
namespace Go.Proofs.YtgahpgmagfngfaaGreatDoor
open Go.RowKit


end Go.Proofs.YtgahpgmagfngfaaGreatDoor


/- The walk of drossref02.Sub. -/
namespace Go.Proofs.YtgahpgmagfngfaaGreatDoor
open Go.RowKit


end Go.Proofs.YtgahpgmagfngfaaGreatDoor


/- The walk of the reference's Order: an insertion sort that keeps each set once. -/
namespace Go.Proofs.YtgahpgmagfngfaaGreatDoor
open Go.RowKit


end Go.Proofs.YtgahpgmagfngfaaGreatDoor

