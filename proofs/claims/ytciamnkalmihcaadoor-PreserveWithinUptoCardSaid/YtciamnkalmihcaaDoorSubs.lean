/- The walk of attrset.Subsets: all subsets of a set, in order. -/
import Derived.Test.YtciamnkalmihcaaDoorCompact
import Derived.Test.YtciamnkalmihcaaDoorGPlain
namespace Go.Proofs.YtciamnkalmihcaaDoor
open Go.RowKit


set_option maxHeartbeats 400000 in
theorem asubsets_any (s : S) (w : World) :
    Calls Tryd.prog 38 #[enc s] w fun e w' => ∃ v' ys, e = .returned v' ∧ w'.ownsRow w.heap.size 25 1 v' ys.length (ys.map enc) ∧ SubsP s ys ∧ ys.length ≤ 4294967297 ∧ Below w.heap.size w w' := by
  have C := hid (asize_any s w)
  obtain ⟨p, hpe⟩ : ∃ p, pop s = p := ⟨_, rfl⟩
  rw [hpe] at C
  have HPE := hid hpe
  clear hpe
  by_cases hp : 12 < p
  · have h12 : ((p : Int) > 12) := by omega
    have HP := hid hp
    clear hp
    simp only [enc_eq] at C ⊢
    go_enter Tryd.func38, Tryd.ntmps38
    go_wp2_with fail
    refine (C.out).mono ?_
    rintro e w' ⟨rfl, q, rfl⟩
    go_wp2_with fail
    go_ret
    exact ⟨_, [], rfl, World.ownsRow_nil _ _ _ _, ⟨fun _ => rfl, fun h => absurd HP.out (by rw [HPE.out] at h; omega)⟩, by simp, below_drewN _ _ _⟩
  · have h12 : decide ((p : Int) > 12) = false := by simp; omega
    have HP := hid hp
    clear hp
    have O := hid (fun (xs : List S) (v : Value) (W : World) (hv : RdE enc W v xs) (h : xs.length < 17592186044416) => aorder_any xs v W hv h)
    simp only [enc_eq] at C ⊢
    go_enter Tryd.func38, Tryd.ntmps38
    go_wp2_with fail
    refine (C.out).mono ?_
    rintro e w' ⟨rfl, q, rfl⟩
    go_wp2_with fail
    go_loopw [3, 4] (fun u i wr => ∃ (x : S) (xs : List S), i = .int .u32 (iv x) ∧ wr.ownsRow w.heap.size 25 1 u xs.length (xs.map enc) ∧ Hid (sub x s) ∧ Hid (∀ y, y ∈ xs ↔ sub y s ∧ x.toNat ≤ y.toNat) ∧ xs.length + x.toNat ≤ 4294967296 ∧ Below w.heap.size w wr) (fun _ i _ => (intOf i).toNat)
    case atStart =>
      refine ⟨s, [s], rfl, ?_, hid (sub_refl s), hid (fun y => ?_), by have := s.isLt; simp; omega, (below_drewN _ _ _).alloc (by simp) _⟩
      · have := World.ownsRow_lit (size := 1) (e := 25) (base := w.heap.size) (w.drewN q) #[enc s] 1 (by simp) (by decide) (by simp)
        simpa [enc_eq] using this
      · rw [List.mem_singleton]
        constructor
        · rintro rfl; exact ⟨sub_refl _, Nat.le_refl _⟩
        · rintro ⟨h1, h2⟩
          have := sub_toNat h1
          exact BitVec.eq_of_toNat_eq (by omega)
    case round =>
      obtain ⟨x, xs, rfl, hown, SX, M, hlen, hnx⟩ := hrel
      have hsz := hnx.size
      cases hx : (x != 0#32) with
      | true =>
        have h0 : x ≠ 0#32 := by simpa using hx
        have hless := fall_less (s := s) h0
        have M2 := hid (show ∀ y, y ∈ xs ++ [(x - 1#32) &&& s] ↔ sub y s ∧ ((x - 1#32) &&& s).toNat ≤ y.toNat by
          intro y
          rw [List.mem_append, List.mem_singleton, M.out y]
          constructor
          · rintro (⟨h1, h2⟩ | rfl)
            · exact ⟨h1, by omega⟩
            · exact ⟨and_sub_right _ _, Nat.le_refl _⟩
          · rintro ⟨h1, h2⟩
            rcases (fall_next SX.out h0 h1).1 h2 with h | h
            · exact .inr h
            · exact .inl ⟨h1, h⟩)
        have S2 := hid (and_sub_right (x - 1#32) s)
        have hlt := x.isLt
        clear M SX h0
        go_wp2_with (at_builtin; refine wpList_push rfl _ _ 52 rfl w.heap.size 25 (.int .u32 0) 4 undSets infoSet rfl (by decide) enc (fun _ => rfl) _ xs rfl (hown.alloc _) ⟨wr.heap.size, 0, none⟩ ((x-1#32)&&&s) rfl cell_new (by omega) (by simp; omega) ?_)
        intro v' w1 hown' hgrow
        have hb1 := below_push hnx hsz hown hgrow
        clear hgrow hown hnx
        go_wp2_with fail
        go_roundw
        case rel => exact ⟨(x - 1#32) &&& s, xs ++ [(x - 1#32) &&& s], rfl, by simpa using hown', S2, M2, by rw [List.length_append, List.length_singleton]; omega, hb1⟩
        case measure => simp only [intOf, iv]; omega
      | false =>
        have h0 : x = 0#32 := by simpa using hx
        have P := hid (show IsOrd [] (fun _ : S => False) from ⟨by simp, by simp⟩)
        have M2 := hid (show ∀ y, y ∈ xs ↔ sub y s by
          intro y
          rw [M.out y, h0]
          exact ⟨fun h => h.1, fun h => ⟨h, by simp⟩⟩)
        have RD := hid (RdE.of_owns hown (by omega))
        clear M SX hown h0
        go_wp2_with fail
        refine (O.out xs _ _ RD.out (by omega)).mono ?_
        rintro e w2 ⟨v', ys, rfl, hown2, ho, hle, hb2⟩
        have B := hid (hnx.trans (hb2.mono hnx.size))
        have HO := hid ho
        have OW := hid (own_mono hown2 hsz)
        clear hb2 ho hown2
        go_wp2_with fail
        go_ret
        exact ⟨_, ys, rfl, OW.out, ⟨fun h => absurd h (by rw [HPE.out]; exact HP.out), fun _ => HO.out.congr M2.out⟩, by omega, B.out⟩

end Go.Proofs.YtciamnkalmihcaaDoor
