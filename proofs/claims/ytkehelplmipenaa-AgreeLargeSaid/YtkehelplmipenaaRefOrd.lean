/- The walk of the reference's Order: an insertion sort that keeps each set once. -/
import Derived.Test.YtkehelplmipenaaGWalk
import Derived.StillTailTactics
namespace Go.Proofs.Ytkehelplmipenaa
open Go.RowKit

set_option maxHeartbeats 800000 in
set_option maxRecDepth 100000 in
theorem refOrder_any (xs : List S) (v : Value) (w : World) (hv : RdE enc w v xs) (h44 : xs.length < 17592186044416) :
    Calls Try.prog 43 #[v] w fun e w' => ∃ v' ys, e = .returned v' ∧ w'.ownsRow w.heap.size 33 1 v' ys.length (ys.map enc) ∧ IsOrd ys (· ∈ xs) ∧ ys.length ≤ xs.length ∧ Below w.heap.size w w' := by
  obtain ⟨ao, cap, rfl, -, -, h3⟩ := hv
  go_enter Try.func43, Try.ntmps43
  go_wp2_with fail
  go_loopw [3, 4] (fun u i wr => ∃ (k : Nat) (ys : List S), k ≤ xs.length ∧ i = .int .i64 k ∧ wr.ownsRow w.heap.size 33 1 u ys.length (ys.map enc) ∧ Hid (IsOrd ys (· ∈ xs.take k)) ∧ ys.length ≤ k ∧ Below w.heap.size w wr) (fun _ i _ => xs.length - (intOf i).toNat)
  case atStart => exact ⟨0, [], Nat.zero_le _, rfl, World.ownsRow_nil _ _ _ _, hid ⟨by simp, fun s => by simp⟩, Nat.le_refl _, Below.refl _ _⟩
  case round =>
    obtain ⟨k, ys, hk, rfl, hown, H, hyl, hnx⟩ := hrel
    have hsz := hnx.size
    by_cases hlt : k < xs.length
    · obtain ⟨b, off, rfl, hb, hcc⟩ := h3 (by omega)
      obtain ⟨x, hx⟩ := get_some hlt
      have e0 : wr.cell? ⟨b, off + k, none⟩ = some (enc x) := (hnx.cell (p := ⟨b, off + k, none⟩) hb).trans (hcc k x hx)
      have hrd := RdE.of_owns hown (by omega)
      have G := hid (in_any ys x u3 wr hrd)
      have X := hid hx
      clear hx hcc h3
      cases hq : ys.any (· == x) with
      | true =>
        have HQ := hid hq
        clear hq
        unfold enc at e0 G
        go_wp2_with fail
        refine G.out.mono ?_
        rw [HQ.out]
        rintro e w3 ⟨rfl, rfl⟩
        go_wp2_with fail
        go_roundw
        case rel =>
          refine ⟨k + 1, ys, by omega, by go_num, hown, hid ?_, by omega, hnx⟩
          have hx : x ∈ ys := by
            have := HQ.out
            rw [List.any_eq_true] at this
            obtain ⟨y, hy, e⟩ := this
            simp at e; subst e; exact hy
          rw [take_next X.out]
          exact H.out.congr (fun s => by
            rw [List.mem_append, List.mem_singleton]
            exact ⟨.inl, fun h => h.elim id (fun e => by rw [e]; exact (H.out.2 x).1 hx)⟩)
        case measure => simp [intOf]; omega
      | false =>
        have HQ := hid hq
        clear hq
        unfold enc at e0 G
        go_wp2_with fail
        refine G.out.mono ?_
        rw [HQ.out]
        rintro e w3 ⟨rfl, rfl⟩
        go_wp2_with (at_builtin; refine wpList_push rfl _ _ 37 rfl w.heap.size 33 (.int .u32 0) 4 undSets infoSet rfl (by decide) enc (fun _ => rfl) _ ys rfl (hown.alloc _) ⟨wr.heap.size, 0, none⟩ x rfl cell_new (by omega) (by simp; omega) ?_)
        intro v' w4 hown' hgrow
        have hb4 := below_push hnx hsz hown hgrow
        clear hgrow hown hnx
        obtain ⟨g, cp, rfl⟩ : ∃ g cp, v' = .slice (some ⟨g, 0, none⟩) (ys.length + 1) cp := by
          rcases hown'.2 with ⟨h, h0⟩ | ⟨g, cp, cur, h, _⟩
          · simp at h0
          · exact ⟨g, cp, by simpa using h⟩
        have BF := hid (fun (y : S) (w : World) => before_any x y w)
        go_wp2_with fail
        go_loopw [5] (fun j w5 => ∃ (a b : List S), Hid (a ++ b = ys) ∧ j = .int .i64 (a.length : Nat) ∧ w5.ownsRow w.heap.size 33 1 (.slice (some ⟨g, 0, none⟩) (ys.length + 1) cp) (ys.length + 1) ((a ++ x :: b).map enc) ∧ Hid (∀ y ∈ b, bef x y) ∧ Below w.heap.size w w5) (fun j _ => (intOf j).toNat)
        case atStart => exact ⟨ys, [], hid (by simp), by go_num, by simpa using hown', hid (by simp), hb4⟩
        case round =>
          obtain ⟨a, b2, AB, rfl, hown5, HB, hnx5⟩ := hrel
          rcases snoc_cases a with rfl | ⟨a', y, rfl⟩
          · simp only [List.length_nil]
            go_wp2_with fail
            go_quiet (fail)
            go_wp2_with fail
            go_roundw
            case rel =>
              have ab : b2 = ys := by simpa using AB.out
              subst ab
              refine ⟨k + 1, x :: b2, by omega, by go_num, hown5, hid ?_, by simp; omega, hnx5.trans (below_drewN _ _ _)⟩
              rw [take_next X.out]
              exact (ins_done (a := []) H.out HB.out (by simp)).congr (fun s => by rw [List.mem_append, List.mem_singleton])
            case measure => simp [intOf]; omega
          · have hlen : (a' ++ [y]).length = a'.length + 1 := by simp
            rw [hlen]
            have hn : a'.length + 1 < ys.length + 1 := by
              have := congrArg List.length AB.out
              simp at this; omega
            have hcy : wr.cell? ⟨g, a'.length, none⟩ = some (enc y) := by
              rw [hown5.cellAt _ (by omega)]; simp
            have hcx : wr.cell? ⟨g, a'.length + 1, none⟩ = some (enc x) := by
              rw [hown5.cellAt _ (by omega)]; simp
            have n1 : a'.length < ys.length := by omega
            have n2 : (a'.length : Int) < (ys.length : Int) := by omega
            have n3 : (0 : Int) ≤ (a'.length : Int) + 1 := by omega
            have n4 : (a'.length : Int) + 1 < (ys.length : Int) + 1 := by omega
            have n5 : (a'.length : Int) < (ys.length : Int) + 1 := by omega
            have n6 : ((a'.length : Int) + 1).toNat = a'.length + 1 := by omega
            have n7 : IntKind.i64.wrap ((a'.length : Int) + 1 - 1) = (a'.length : Int) := by rw [Int.add_sub_cancel]; exact IntWalk.i64_in _ (by omega)
            have n8 : IntKind.i64.wrap (a'.length : Int) = (a'.length : Int) := IntWalk.i64_in _ (by omega)
            have n9 : (0 : Int) < (a'.length : Int) + 1 := by omega
            unfold enc at hcx hcy BF
            cases hq : decide (bef x y) with
            | false =>
              have HB2 := hid hq
              clear hq
              go_wp2_with fail
              go_still_tail 12, (by kernel_rfl)
              go_wp2_with fail
              refine (BF.out y _).mono ?_
              rw [HB2.out]
              rintro e w6 ⟨rfl, hb6⟩
              have hb6' : Below wr.heap.size wr w6 := (Below.refl _ wr).drew.trans hb6
              have hown6 := own_below hown5 hb6'
              have B6 := hid (hnx5.trans (hb6'.mono hnx5.size))
              clear hb6 hb6' hcx hcy hown5 hnx5
              go_wp2_with fail
              go_roundw
              case rel =>
                refine ⟨k + 1, (a' ++ [y]) ++ x :: b2, by omega, by go_num, ?_, hid ?_, ?_, B6.out⟩
                · rw [show ((a' ++ [y]) ++ x :: b2).length = ys.length + 1 by have := congrArg List.length AB.out; simp at this ⊢; omega]
                  exact hown6
                · rw [take_next X.out]
                  have ho := H.out
                  rw [← AB.out] at ho
                  have hnx : ¬ x ∈ xs.take k := by
                    intro h
                    have h2 : ys.any (· == x) = true := List.any_eq_true.2 ⟨x, (H.out.2 x).2 h, by simp⟩
                    rw [HQ.out] at h2; cases h2
                  exact (ins_done ho HB.out (ins_left ho hnx (by simpa using HB2.out))).congr (fun s => by rw [List.mem_append, List.mem_singleton])
                · have := congrArg List.length AB.out; simp at this ⊢; omega
              case measure => simp [intOf]; omega
            | true =>
              have HB2 := hid hq
              clear hq
              go_wp2_with fail
              go_still_tail 12, (by kernel_rfl)
              go_wp2_with fail
              refine (BF.out y _).mono ?_
              rw [HB2.out]
              rintro e w6 ⟨rfl, hb6⟩
              have hb6' : Below wr.heap.size wr w6 := (Below.refl _ wr).drew.trans hb6
              have hown6 := own_below hown5 hb6'
              have B6 := hid (hnx5.trans (hb6'.mono hnx5.size))
              clear hb6 hb6' hcx hcy hown5 hnx5
              have hcy : w6.cell? ⟨g, a'.length, none⟩ = some (enc y) := by
                rw [hown6.cellAt _ (by omega)]; simp
              have hcx : w6.cell? ⟨g, a'.length + 1, none⟩ = some (enc x) := by
                rw [hown6.cellAt _ (by omega)]; simp
              have hfy : w6.frozen? ⟨g, a'.length, none⟩ = false := hown6.frozenAt _
              have hfx : w6.frozen? ⟨g, a'.length + 1, none⟩ = false := hown6.frozenAt _
              unfold enc at hcx hcy
              go_wp2_with fail
              go_region
              have S1 := (hown6.stored (a'.length + 1) (enc y)).1.stored a'.length (enc x)
              rw [set_swap] at S1
              have hb7 : Below w.heap.size w ((w6.setCell ⟨g, a'.length + 1, none⟩ (enc y)).setCell ⟨g, a'.length, none⟩ (enc x)).drew := by
                have hg : w.heap.size ≤ g := (hown6.lt g rfl).1
                exact ((B6.out.setCell (p := ⟨g, a'.length + 1, none⟩) hg _).setCell (p := ⟨g, a'.length, none⟩) hg _).drew
              have OW := hid S1.1
              have B7 := hid hb7
              clear S1 hb7 hown6 hcx hcy hfx hfy
              go_wp2_with fail
              go_roundw
              case rel =>
                refine ⟨a', y :: b2, hid (by rw [← AB.out]; simp), by go_num, OW.out, hid ?_, B7.out⟩
                intro z hz
                rw [List.mem_cons] at hz
                rcases hz with rfl | hz
                · simpa using HB2.out
                · exact HB.out z hz
              case measure => simp [intOf]
    · go_wp2_with fail
      go_ret
      have := H.out
      rw [take_all hlt] at this
      exact ⟨_, ys, rfl, hown, this, by omega, hnx⟩

end Go.Proofs.Ytkehelplmipenaa
