/- The walks of slices.Concat at two lists of dependencies, and of cover's others, extraneous and redundant. -/
import Derived.Test.YtmlbmdcmedglaaaDoorApp
import Derived.Test.YtmlbmdcmedglaaaDoorCovL
namespace Go.Proofs.YtmlbmdcmedglaaaDoor
open Go.RowKit

theorem RdC.form {α : Type} {c : α → List Value} {w : World} {v : Value} {xs : List α} (h : RdC c w v xs) : ∃ ao cap, v = .slice ao xs.length cap := by
  obtain ⟨ao, cap, rfl, _⟩ := h; exact ⟨ao, cap, rfl⟩

/-- Concat of two lists. -/
theorem concat_any (xs ys : List F) (v u : Value) (b : Nat) (w : World) (h0 : w.cell? ⟨b, 0, none⟩ = some v) (h1 : w.cell? ⟨b, 1, none⟩ = some u) (hv : RdF w v xs) (hu : RdF w u ys) (hl : xs.length + ys.length < 1099511627776) :
    Calls Tryd.prog 80 #[.slice (some ⟨b, 0, none⟩) 2 2] w fun e w' => ∃ v', e = .returned v' ∧ w'.ownsRow w.heap.size 30 2 v' (xs ++ ys).length ((xs ++ ys).flatMap cF) ∧ Below w.heap.size w w' := by
  have hb := World.block_lt_of_cell? _ _ h0
  have CE := hid (fun (W : World) (h : Below w.heap.size w W) => And.intro ((h.cell (p := ⟨b, 0, none⟩) hb).trans h0) ((h.cell (p := ⟨b, 1, none⟩) hb).trans h1))
  have RV := hid (fun (W : World) (h : Below w.heap.size w W) => hv.below h)
  have RU := hid (fun (W : World) (h : Below w.heap.size w W) => hu.below h)
  have GR := hid (fun (W : World) => grow_any (xs.length + ys.length) hl W)
  obtain ⟨ao, cap, rfl⟩ := hv.form
  obtain ⟨bo, cbp, rfl⟩ := hu.form
  clear hv hu hb
  go_enter Tryd.func80, Tryd.ntmps80
  go_wp2_with fail
  go_loop [3, 11] (fun t i => ∃ k : Nat, k ≤ 2 ∧ i = .int .i64 k ∧ t = .int .i64 ((if 1 ≤ k then xs.length else 0) + (if 2 ≤ k then ys.length else 0) : Nat)) (fun _ i => 2 - (intOf i).toNat)
  case atStart => exact ⟨0, by omega, rfl, rfl⟩
  case round =>
    obtain ⟨k, hk, rfl, rfl⟩ := hrel
    rcases (show k = 0 ∨ k = 1 ∨ k = 2 by omega) with rfl | rfl | rfl
    · have hx : ((if 1 ≤ 0 then xs.length else 0) + (if 2 ≤ 0 then ys.length else 0) : Nat) = 0 := by simp
      rw [hx]
      clear hx
      go_wp2_with fail
      go_round
      case rel => exact ⟨1, by omega, rfl, by simp⟩
      case measure => simp [intOf]
    · have hx : ((if 1 ≤ 1 then xs.length else 0) + (if 2 ≤ 1 then ys.length else 0) : Nat) = xs.length := by simp
      rw [hx]
      clear hx
      have hn : ¬ ((xs.length : Int) + (ys.length : Int) < 0) := by omega
      go_wp2_with fail
      go_round
      case rel => exact ⟨2, by omega, rfl, by simp⟩
      case measure => simp [intOf]
    · have hx : ((if 1 ≤ 2 then xs.length else 0) + (if 2 ≤ 2 then ys.length else 0) : Nat) = xs.length + ys.length := by simp
      rw [hx]
      clear hx
      go_wp2_with fail
      refine (GR.out w).mono ?_
      rintro e w1 ⟨v1, rfl, ho1, hb1⟩
      have HO := hid ho1
      have B1 := hid hb1
      clear ho1 hb1 h0 h1
      go_wp2_with fail
      go_loopw [6, 27] (fun o i wr => ∃ k : Nat, k ≤ 2 ∧ i = .int .i64 k ∧ wr.ownsRow w.heap.size 30 2 o ((if 1 ≤ k then xs else []) ++ (if 2 ≤ k then ys else [])).length (((if 1 ≤ k then xs else []) ++ (if 2 ≤ k then ys else [])).flatMap cF) ∧ Below w.heap.size w wr) (fun _ i _ => 2 - (intOf i).toNat)
      case atStart => exact ⟨0, by omega, rfl, by simpa using HO.out, B1.out⟩
      case round =>
        obtain ⟨k, hk, rfl, hown, hnx⟩ := hrel
        have hsz := hnx.size
        obtain ⟨c0, c1⟩ := CE.out wr hnx
        have V := hid (RV.out wr hnx)
        have U := hid (RU.out wr hnx)
        rcases (show k = 0 ∨ k = 1 ∨ k = 2 by omega) with rfl | rfl | rfl
        · simp at hown
          have hown' : wr.ownsRow w.heap.size 30 2 u6 ([] : List F).length (([] : List F).flatMap cF) := by simpa using hown
          clear hown
          go_wp2_with (at_builtin; refine wpList_appC rfl _ _ 24 rfl w.heap.size 30 (.agg #[.int .u32 0, .int .u32 0]) 8 undFDs infoFD rfl (by decide) (by decide) cF_length cF_one _ [] rfl hown' _ xs rfl V.out (by simp; omega) hsz ?_)
          intro v' w2 ho2 hgrow
          have hb2 := hnx.grown hgrow hsz (fun j hj => (hown'.lt j hj).1)
          clear hgrow hown' hnx c0 c1
          go_wp2_with fail
          go_roundw
          case rel => exact ⟨1, by omega, rfl, by simpa using ho2, hb2⟩
          case measure => simp [intOf]
        · have hown' : wr.ownsRow w.heap.size 30 2 u6 xs.length (xs.flatMap cF) := by simpa using hown
          clear hown
          go_wp2_with (at_builtin; refine wpList_appC rfl _ _ 24 rfl w.heap.size 30 (.agg #[.int .u32 0, .int .u32 0]) 8 undFDs infoFD rfl (by decide) (by decide) cF_length cF_one _ xs rfl hown' _ ys rfl U.out (by omega) hsz ?_)
          intro v' w2 ho2 hgrow
          have hb2 := hnx.grown hgrow hsz (fun j hj => (hown'.lt j hj).1)
          clear hgrow hown' hnx c0 c1
          go_wp2_with fail
          go_roundw
          case rel => exact ⟨2, by omega, rfl, by simpa using ho2, hb2⟩
          case measure => simp [intOf]
        · have hown' : wr.ownsRow w.heap.size 30 2 u6 (xs ++ ys).length ((xs ++ ys).flatMap cF) := by simpa using hown
          clear hown
          go_wp2_with fail
          go_ret
          exact ⟨_, rfl, hown', hnx⟩

end Go.Proofs.YtmlbmdcmedglaaaDoor
