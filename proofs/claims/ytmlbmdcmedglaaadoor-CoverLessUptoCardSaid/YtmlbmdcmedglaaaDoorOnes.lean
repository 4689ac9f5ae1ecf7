/- The order of sets (their sizes, then as numbers): the size, what OnesCount32 and cmp.Compare give. -/
import Derived.Test.YtmlbmdcmedglaaaDoorIn
import Derived.Test.YtmlbmdcmedglaaaDoorOrdL
namespace Go.Proofs.YtmlbmdcmedglaaaDoor
open Go.RowKit

@[go_sem] theorem iv_div24 (s : S) : iv s / (16777216 : Int) = iv (s >>> 24) := iv_shr s 24
@[go_sem] theorem iv_div16 (s : S) : iv s / (65536 : Int) = iv (s >>> 16) := iv_shr s 16
@[go_sem] theorem iv_div8 (s : S) : iv s / (256 : Int) = iv (s >>> 8) := iv_shr s 8

/-- OnesCount32. -/
theorem ones_any (s : S) (w : World) :
    Calls Tryd.prog 93 #[enc s] w fun e w' => e = .returned (.int .i64 (pop s : Nat)) ∧ ∃ q, w' = w.drewN q := by
  have hp := hid (pop_bytes s)
  have b0 : (s >>> 24).toNat < 256 := by
    have := s.isLt
    simp only [BitVec.toNat_ushiftRight, Nat.shiftRight_eq_div_pow]; omega
  have m : ∀ x : S, (x &&& 255#32).toNat < 256 := by
    intro x
    rw [BitVec.toNat_and]
    have := Nat.and_two_pow_sub_one_eq_mod x.toNat 8
    simp at this
    simp [this]; omega
  have b1 := m (s >>> 16)
  have b2 := m (s >>> 8)
  have b3 := m s
  clear m
  unfold enc
  go_enter Tryd.func93, Tryd.ntmps93
  generalize hT : ByteArray.mk _ = tab
  have h256 : tab.size = 256 := by rw [← hT]; decide +kernel
  have hget : ∀ i : Fin 256, (tab.get! i.val).toNat = popN 8 i.val := by rw [← hT]; decide +kernel
  clear hT
  have hix : ∀ (x : S) (w : World), x.toNat < 256 → (Instr.index 9 (.string tab) (.int .u32 (iv x))).run Tryd.prog w = .ok (.int .u8 (popN 8 x.toNat : Nat)) w := by
    intro x w hx
    have h0 : 0 ≤ iv x ∧ iv x < tab.size := by rw [h256]; unfold iv; omega
    rw [run_index_string w _ _ _ _ (by kernel_rfl), dif_pos h0]
    have e := hget ⟨x.toNat, hx⟩
    have e2 : tab[(iv x).toNat]'(by omega) = tab.get! x.toNat := by
      have : (iv x).toNat = x.toNat := by unfold iv; omega
      simp only [this]
      rw [ByteArray.get!, getElem!_pos tab.data x.toNat (by show x.toNat < tab.size; omega)]
      rfl
    rw [e2, e]
  have x0 := fun w => hix (s >>> 24) w b0
  have x1 := fun w => hix (s >>> 16 &&& 255#32) w b1
  have x2 := fun w => hix (s >>> 8 &&& 255#32) w b2
  have x3 := fun w => hix (s &&& 255#32) w b3
  clear hix hget h256 b0 b1 b2 b3
  have l0 := popN_le 8 (s >>> 24).toNat
  have l1 := popN_le 8 (s >>> 16 &&& 255#32).toNat
  have l2 := popN_le 8 (s >>> 8 &&& 255#32).toNat
  have l3 := popN_le 8 (s &&& 255#32).toNat
  generalize popN 8 (s >>> 24).toNat = n0 at *
  generalize popN 8 (s >>> 16 &&& 255#32).toNat = n1 at *
  generalize popN 8 (s >>> 8 &&& 255#32).toNat = n2 at *
  generalize popN 8 (s &&& 255#32).toNat = n3 at *
  go_wp2
  go_quiet (fail)
  go_wp2
  go_ret
  exact ⟨ret_int (by rw [hp.out]; simp), _, rfl⟩

theorem cmpInt_any (x y : Int) (w : World) :
    Calls Tryd.prog 106 #[.int .i64 x, .int .i64 y] w fun e w' => e = .returned (.int .i64 (cmpI x y)) ∧ w = w' := by
  have hx : ((x : Int) != x) = false := by simp
  have hy : ((y : Int) != y) = false := by simp
  rcases (show x < y ∨ (¬ x < y ∧ y < x) ∨ (¬ x < y ∧ ¬ y < x) by omega) with h | ⟨h1, h2⟩ | ⟨h1, h2⟩
  · have e : cmpI x y = -1 := by simp [cmpI, h]
    rw [e]; clear e
    go_enter Tryd.func106, Tryd.ntmps106
    go_wp2
    go_ret
    exact ⟨rfl, rfl⟩
  · have e : cmpI x y = 1 := by simp [cmpI, h1, h2]
    rw [e]; clear e
    go_enter Tryd.func106, Tryd.ntmps106
    go_wp2
    go_ret
    exact ⟨rfl, rfl⟩
  · have e : cmpI x y = 0 := by simp [cmpI, h1, h2]
    rw [e]; clear e
    go_enter Tryd.func106, Tryd.ntmps106
    go_wp2
    go_ret
    exact ⟨rfl, rfl⟩
theorem cmpSet_any (a b : S) (w : World) :
    Calls Tryd.prog 107 #[enc a, enc b] w fun e w' => e = .returned (.int .i64 (cmpI (iv a) (iv b))) ∧ w = w' := by
  have hx : (a != a) = false := by simp
  have hy : (b != b) = false := by simp
  unfold enc
  rcases (show iv a < iv b ∨ (¬ iv a < iv b ∧ iv b < iv a) ∨ (¬ iv a < iv b ∧ ¬ iv b < iv a) by omega) with h | ⟨h1, h2⟩ | ⟨h1, h2⟩
  · have e : cmpI (iv a) (iv b) = -1 := by simp [cmpI, h]
    rw [e]; clear e
    go_enter Tryd.func107, Tryd.ntmps107
    go_wp2
    go_ret
    exact ⟨rfl, rfl⟩
  · have e : cmpI (iv a) (iv b) = 1 := by simp [cmpI, h1, h2]
    rw [e]; clear e
    go_enter Tryd.func107, Tryd.ntmps107
    go_wp2
    go_ret
    exact ⟨rfl, rfl⟩
  · have e : cmpI (iv a) (iv b) = 0 := by simp [cmpI, h1, h2]
    rw [e]; clear e
    go_enter Tryd.func107, Tryd.ntmps107
    go_wp2
    go_ret
    exact ⟨rfl, rfl⟩

end Go.Proofs.YtmlbmdcmedglaaaDoor
