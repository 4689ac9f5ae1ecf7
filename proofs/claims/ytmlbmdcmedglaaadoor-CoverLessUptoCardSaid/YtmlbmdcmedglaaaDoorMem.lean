/- The walks that make slices: Members, Size, Before, Clone. -/
import Derived.Test.YtmlbmdcmedglaaaDoorOnes
import Derived.Test.YtmlbmdcmedglaaaDoorTransL
namespace Go.Proofs.YtmlbmdcmedglaaaDoor
open Go.RowKit

theorem infoInt : (Tryd.prog.info? 3).map (fun i => (i.zero, i.size, i.bytes)) = some (some (.int .i64 0), 1, 8) := by kernel_rfl
theorem infoSet : (Tryd.prog.info? 28).map (fun i => (i.zero, i.size, i.bytes)) = some (some (.int .u32 0), 1, 4) := by kernel_rfl
theorem undInts : Tryd.prog.underlying 47 = some (.slice 3) := by kernel_rfl
theorem undSets : Tryd.prog.underlying 67 = some (.slice 28) := by kernel_rfl
def encI (n : Nat) : Value := .int .i64 n

/-- Members of the reference. -/
theorem members_any (s : S) (w : World) :
    Calls Tryd.prog 75 #[enc s] w fun e w' => ∃ v, e = .returned v ∧ w'.ownsRow w.heap.size 3 1 v (memN s 32).length ((memN s 32).map encI) ∧ Below w.heap.size w w' := by
  have C := hid (fun (k : Nat) (hk : k < 32) (w : World) => has_any s k hk w)
  unfold enc at *
  go_enter Tryd.func75, Tryd.ntmps75
  go_wp2
  go_loopw [3, 4] (fun v i wr => ∃ k : Nat, k ≤ 32 ∧ i = .int .i64 k ∧ wr.ownsRow w.heap.size 3 1 v (memN s k).length ((memN s k).map encI) ∧ Below w.heap.size w wr) (fun _ i _ => 32 - (intOf i).toNat)
  case atStart => exact ⟨0, Nat.zero_le _, rfl, World.ownsRow_nil _ _ _ _, Below.refl _ _⟩
  case round =>
    obtain ⟨k, hk, rfl, hown, hnx⟩ := hrel
    have hsz := hnx.size
    have hml := memN_length s k
    by_cases hlt : k < 32
    · cases hb : s.getLsbD k with
      | true =>
        have HB := hid hb
        clear hb
        go_wp2_with fail
        refine (C.out k hlt wr).mono ?_
        rw [HB.out]
        rintro e w' ⟨rfl, rfl⟩
        go_wp2_with (at_builtin; refine wpList_push rfl _ _ 47 rfl w.heap.size 3 (.int .i64 0) 8 undInts infoInt rfl (by decide) encI (fun _ => rfl) _ _ rfl (hown.alloc _) ⟨wr.heap.size, 0, none⟩ k rfl cell_new (by omega) (by simp; omega) ?_)
        intro v' w1 hown' hgrow
        have hb1 := below_push hnx hsz hown hgrow
        have hown2 : w1.ownsRow w.heap.size 3 1 v' (memN s (k + 1)).length ((memN s (k + 1)).map encI) := by rw [memN_yes HB.out]; simpa using hown'
        clear hgrow hown hnx hown'
        go_wp2
        go_roundw
        case rel => exact ⟨k + 1, by omega, by go_num, hown2, hb1⟩
        case measure => simp [intOf]; omega
      | false =>
        have HB := hid hb
        clear hb
        go_wp2_with fail
        refine (C.out k hlt wr).mono ?_
        rw [HB.out]
        rintro e w' ⟨rfl, rfl⟩
        go_wp2_with fail
        go_roundw
        case rel => exact ⟨k + 1, by omega, by go_num, by rw [memN_no HB.out]; exact hown, hnx⟩
        case measure => simp [intOf]; omega
    · obtain rfl : k = 32 := by omega
      go_wp2_with fail
      go_ret
      exact ⟨_, rfl, hown, hnx⟩

/-- Size of the reference. -/
theorem size_any (s : S) (w : World) :
    Calls Tryd.prog 38 #[enc s] w fun e w' => e = .returned (.int .i64 (pop s : Nat)) ∧ Below w.heap.size w w' := by
  have C := hid (members_any s w)
  have hp := hid (memN_pop s)
  unfold enc at *
  go_enter Tryd.func38, Tryd.ntmps38
  go_wp2_with fail
  refine C.out.mono ?_
  rintro e w' ⟨v, rfl, hown, hb⟩
  have B := hid hb
  clear hb
  obtain ⟨ao, cap, rfl⟩ : ∃ ao cap, v = .slice ao (memN s 32).length cap := by
    rcases hown.2 with ⟨rfl, h⟩ | ⟨g, cap, cur, rfl, _⟩
    · exact ⟨none, 0, by rw [h]⟩
    · exact ⟨_, cap, rfl⟩
  clear hown
  go_wp2_with fail
  go_ret
  exact ⟨by rw [← hp.out]; rfl, B.out⟩

/-- Before of the reference. -/
theorem before_any (a b : S) (w : World) :
    Calls Tryd.prog 91 #[enc a, enc b] w fun e w' => e = .returned (.bool (decide (bef a b))) ∧ Below w.heap.size w w' := by
  have C1 := hid (fun w => size_any a w)
  have C2 := hid (fun w => size_any b w)
  by_cases h : pop a = pop b
  · have e : decide (bef a b) = decide (iv a < iv b) := by
      rw [decide_eq_decide, bef_iff]; unfold iv; omega
    rw [e]; clear e
    have hne : ((pop a : Int) != (pop b : Int)) = false := by simp [h]
    clear h
    unfold enc at *
    go_enter Tryd.func91, Tryd.ntmps91
    go_wp2_with fail
    refine (C1.out _).mono ?_
    rintro e w1 ⟨rfl, b1⟩
    go_wp2_with fail
    refine (C2.out _).mono ?_
    rintro e w2 ⟨rfl, b2⟩
    have B := hid (b1.trans (b2.mono b1.size))
    clear b1 b2
    go_wp2_with fail
    go_ret
    exact ⟨rfl, B.out⟩
  · have e : decide (bef a b) = decide (pop a < pop b) := by
      rw [decide_eq_decide, bef_iff]; omega
    rw [e]; clear e
    have hne : ((pop a : Int) != (pop b : Int)) = true := by simp; omega
    clear h
    unfold enc at *
    go_enter Tryd.func91, Tryd.ntmps91
    go_wp2_with fail
    refine (C1.out _).mono ?_
    rintro e w1 ⟨rfl, b1⟩
    go_wp2_with fail
    refine (C2.out _).mono ?_
    rintro e w2 ⟨rfl, b2⟩
    have B2 := hid (b1.trans (b2.mono b1.size))
    clear b1 b2
    go_wp2_with fail
    refine (C1.out _).mono ?_
    rintro e w3 ⟨rfl, b3⟩
    go_wp2_with fail
    refine (C2.out _).mono ?_
    rintro e w4 ⟨rfl, b4⟩
    have B4 := hid (B2.out.trans ((b3.trans (b4.mono b3.size)).mono B2.out.size))
    clear b3 b4
    go_wp2_with fail
    go_ret
    exact ⟨ret_bool (by simp), B4.out⟩

/-- slices.Clone. -/
theorem clone_any (xs : List S) (v : Value) (w : World) (hv : RdE enc w v xs) (h44 : xs.length < 17592186044416) :
    Calls Tryd.prog 58 #[v] w fun e w' => ∃ v', e = .returned v' ∧ w'.ownsRow w.heap.size 28 1 v' xs.length (xs.map enc) ∧ Below w.heap.size w w' := by
  obtain ⟨ao, cap, rfl, h1, h2, h3⟩ := hv
  have heq := fun (a : Option Addr) (n c : Nat) (w : World) => Lib.run_eql_slice_nil (P := Tryd.prog) w 67 28 a n c 0 0 undSets
  cases ao with
  | none =>
    have hx : xs = [] := by
      cases xs with
      | nil => rfl
      | cons x l => obtain ⟨b, off, h, _⟩ := h3 (by simp); cases h
    subst hx
    clear h3
    go_enter Tryd.func58, Tryd.ntmps58
    go_wp2_with fail
    go_ret
    exact ⟨_, rfl, World.ownsRow_nil _ _ _ _, Below.refl _ _⟩
  | some a =>
    obtain ⟨i, hi, hz0, hz1, hz2⟩ := info_parts infoSet
    have hcells : ∀ (j : Nat) (u : Value), (xs.map enc)[j]? = some u → w.cell? (a.add j) = some u := by
      intro j u hu
      rw [List.getElem?_map, Option.map_eq_some_iff] at hu
      obtain ⟨x, hx, rfl⟩ := hu
      have hj : j < xs.length := (List.getElem?_eq_some_iff.1 hx).1
      obtain ⟨b, off, e, _, hc⟩ := h3 (by omega)
      cases e
      rw [Addr.add_lit]
      exact hc j x hx
    have hcells2 : ∀ (j : Nat) (u : Value), (xs.map enc)[j]? = some u → (w.alloc (.cells #[] 28)).cell? (a.add j) = some u := fun j u hu => World.cell?_alloc_lt _ _ _ (World.block_lt_of_cell? _ _ (hcells j u hu)) |>.trans (hcells j u hu)
    have HC := hid hcells2
    have hown := World.ownsRow_lit (size := 1) (e := 28) w #[] 0 (Nat.le_refl _) (Nat.zero_le _) rfl
    clear hcells hcells2 h3
    go_enter Tryd.func58, Tryd.ntmps58
    have s1 : ∀ u ∈ xs.map enc, u.oneCell' = true := by intro u hu; obtain ⟨x, _, rfl⟩ := List.mem_map.1 hu; rfl
    have S1 := hid s1
    clear s1
    go_wp2_with (at_builtin; refine wpList_append_own _ rfl _ _ 67 rfl w.heap.size 28 i (.int .u32 0) 1 4 undSets hi hz0 hz1 hz2 rfl (by decide) _ _ _ rfl hown a xs.length cap (xs.map enc) rfl (by simp) HC.out S1.out (by unfold maxLen; omega) (by omega) (by simp) ?_)
    · intro v' w1 h1' hg _
      have B : Below w.heap.size w w1 := ((Below.refl _ w).alloc (Nat.le_refl _) _).grown hg (by simp) (fun k hk => by simp [Value.ownBlock] at hk; omega)
      have BB := hid B
      clear B hg
      have H := hid h1'
      clear h1'
      go_wp2_with fail
      go_ret
      exact ⟨_, rfl, by simpa using H.out, BB.out⟩

end Go.Proofs.YtmlbmdcmedglaaaDoor
