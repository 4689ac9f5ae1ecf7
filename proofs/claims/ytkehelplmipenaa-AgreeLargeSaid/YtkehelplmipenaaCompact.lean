/- slices.Compact over a row of sets of the call's own, and attrset's Order: the different sets in order. -/
import Derived.Test.YtkehelplmipenaaOrdS
import Derived.Test.YtkehelplmipenaaComp
import Derived.Test.YtkehelplmipenaaSortA
namespace Go.Proofs.Ytkehelplmipenaa
open Go.RowKit Go.Shelf Go.Lib Go.Sort

theorem eqlS (T : TypeId) : EqlAt Try.prog T enc (fun x y => decide (x = y)) :=
  ⟨fun x y w => ((EqlAt.intD Try.prog T .u32).1 (iv x) (iv y) w).trans (by
    have e : decide (iv x = iv y) = decide (x = y) := decide_eq_decide.2 ⟨iv_inj, fun h => by rw [h]⟩
    simp only [e]), fun op a b x y w => (EqlAt.intD Try.prog T .u32).2 op a b (iv x) (iv y) w⟩
theorem neqS (T : TypeId) : NeqAt Try.prog T enc (fun x y => decide (x = y)) :=
  ⟨fun x y w => ((NeqAt.intD Try.prog T .u32).1 (iv x) (iv y) w).trans (by
    have e : decide (iv x = iv y) = decide (x = y) := decide_eq_decide.2 ⟨iv_inj, fun h => by rw [h]⟩
    simp only [e]), fun op a b x y w => (NeqAt.intD Try.prog T .u32).2 op a b (iv x) (iv y) w⟩

theorem compact_any (xs : List S) (v : Value) (B : Nat) (w : World) (hown : w.ownsRow B 33 1 v xs.length (xs.map enc)) (hl : xs.length < 17592186044416) :
    Calls Try.prog 61 #[v] w fun e w' => ∃ v', e = .returned v' ∧ w'.ownsRow B 33 1 v' (compact xs).length ((compact xs).map enc) ∧ Below B w w' := by
  rcases hown.2 with ⟨rfl, hn⟩ | ⟨g, cap, cur, rfl, hB, hg, hnc, hcm, hcs, htake⟩
  · have hx : xs = [] := List.eq_nil_of_length_eq_zero hn
    subst hx
    clear hown hn hl
    go_enter Try.func61, Try.ntmps61
    go_wp2_with fail
    go_ret
    exact ⟨_, rfl, World.ownsRow_nil _ _ _ _, Below.refl _ _⟩
  · have htk : cur.toList.take xs.length = xs.map enc := by simpa using htake
    have h := AnyE.slices_Compact Try.compS enc (fun _ => rfl) (eqlS _) (neqS _) 0#32 (fun w => Try.zeroValue33 w) g 0 cap xs.toArray w (holds_row hg htk) (by simp; omega) (by simpa using hnc)
    have h' : Calls Try.prog 61 #[.slice (some ⟨g, 0, none⟩) xs.length cap] w _ := h
    refine h'.mono fun e w' ⟨he, q, hw⟩ => ?_
    have hcl := compact_length xs
    have hc : compactUpTo xs.toArray xs.toArray.size = compact xs := by simp [compact]
    rw [hc] at he hw
    generalize hys : compact xs = ys at *
    refine ⟨_, he, ?_, ?_⟩
    · have hlen : (ys ++ List.replicate (xs.toArray.size - ys.length) 0#32).length = xs.length := by simp; omega
      have hr := row_owns (f := enc) (n := q) (e := 33) (os := #[]) (ss := xs) (ts := ys ++ List.replicate (xs.toArray.size - ys.length) 0#32) hlen hB hg hnc hcm hcs
      rw [grow_empty, ← hw] at hr
      rcases hr.2 with ⟨h1, _⟩ | ⟨g', cap', cur', hv, hB', hg', hnc', hcm', hcs', htake'⟩
      · cases h1
      · simp only [Value.slice.injEq, Option.some.injEq, Addr.mk.injEq] at hv
        obtain ⟨⟨rfl, -, -⟩, -, rfl⟩ := hv
        refine ⟨by simp, .inr ⟨g, cap, cur', rfl, hB', hg', by omega, hcm', hcs', ?_⟩⟩
        have := congrArg (List.take ys.length) htake'
        rw [List.take_take, List.map_append, List.take_append_of_le_length (by simp), Nat.mul_one, Nat.min_eq_left hcl] at this
        rw [Nat.mul_one, this, List.take_of_length_le (by simp)]
    · have hgr := row_grown (w := w) (g := g) (n := q) (os := #[]) (f := enc) (ys ++ List.replicate (xs.toArray.size - ys.length) 0#32).toArray
      rw [grow_empty, ← hw] at hgr
      exact (Below.refl B w).grown hgr (by have := (Array.getElem?_eq_some_iff.1 hg).1; omega) (fun k hk => by cases hk; exact hB)

/-- Order. -/
theorem aorder_any (xs : List S) (v : Value) (w : World) (hv : RdE enc w v xs) (h44 : xs.length < 17592186044416) :
    Calls Try.prog 40 #[v] w fun e w' => ∃ v' ys, e = .returned v' ∧ w'.ownsRow w.heap.size 33 1 v' ys.length (ys.map enc) ∧ IsOrd ys (· ∈ xs) ∧ ys.length ≤ xs.length ∧ Below w.heap.size w w' := by
  have C1 := hid (clone_any xs v w hv h44)
  have C2 := hid (fun (v : Value) (W : World) (ho : W.ownsRow w.heap.size 33 1 v xs.length (xs.map enc)) => sortA_any xs v w.heap.size W ho h44)
  have hsl := (sortS_perm xs).length_eq
  have C3 := hid (fun (v : Value) (W : World) (ho : W.ownsRow w.heap.size 33 1 v (sortS xs).length ((sortS xs).map enc)) => compact_any (sortS xs) v w.heap.size W ho (by omega))
  have O := hid (compact_ord (sortS_sorted xs))
  have L := hid (compact_length (sortS xs))
  have SL := hid hsl
  have PM := hid (fun s => (sortS_perm xs).mem_iff (a := s))
  obtain ⟨ao, cap, rfl, -⟩ := hv
  clear hsl h44
  go_enter Try.func40, Try.ntmps40
  go_wp2_with fail
  refine C1.out.mono ?_
  rintro e w1 ⟨v1, rfl, hown1, hb1⟩
  go_wp2_with fail
  refine (C2.out v1 w1 hown1).mono ?_
  rintro e w2 ⟨rfl, hown2, hb2⟩
  rw [← SL.out] at hown2
  have B2 := hid (hb1.trans hb2)
  clear hb1 hb2 hown1
  go_wp2_with fail
  refine (C3.out v1 w2 hown2).mono ?_
  rintro e w3 ⟨v3, rfl, hown3, hb3⟩
  have B3 := hid (B2.out.trans hb3)
  clear hb3 hown2
  go_wp2_with fail
  go_ret
  exact ⟨_, _, rfl, hown3, O.out.congr PM.out, by have := L.out; have := SL.out; omega, B3.out⟩

end Go.Proofs.Ytkehelplmipenaa
