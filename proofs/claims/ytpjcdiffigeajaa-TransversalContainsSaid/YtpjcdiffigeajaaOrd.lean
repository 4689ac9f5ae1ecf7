/- The order of sets (their sizes, then as numbers): the size, what OnesCount32 and cmp.Compare give, the sort. -/
import Derived.Test.YtpjcdiffigeajaaTrans
import Derived.Test.YtpjcdiffigeajaaOrdL
namespace Go.Proofs.Ytpjcdiffigeajaa
open Go.RowKit

@[go_sem] theorem iv_div24 (s : S) : iv s / (16777216 : Int) = iv (s >>> 24) := iv_shr s 24
@[go_sem] theorem iv_div16 (s : S) : iv s / (65536 : Int) = iv (s >>> 16) := iv_shr s 16
@[go_sem] theorem iv_div8 (s : S) : iv s / (256 : Int) = iv (s >>> 8) := iv_shr s 8

/-- OnesCount32. -/
theorem ones_any (s : S) (w : World) :
    Calls Try.prog 46 #[enc s] w fun e w' => e = .returned (.int .i64 (pop s : Nat)) ∧ ∃ q, w' = w.drewN q := by
  have hp := hid (pop_bytes s)
  have b0 : (s >>> 24).toNat < 256 := by
    have := s.isLt
    simp only [BitVec.toNat_ushiftRight, Nat.shiftRight_eq_div_pow]; omega
  have m : ∀ x : S, (x &&& 255#32).toNat < 256 := by
    intro x
    rw [BitVec.toNat_and]
    have := Nat.and_two_pow_sub_one_eq_mod x.toNat 8
    simp at this
    simp [this]; omega
  have b1 := m (s >>> 16)
  have b2 := m (s >>> 8)
  have b3 := m s
  clear m
  unfold enc
  go_enter Try.func46, Try.ntmps46
  generalize hT : ByteArray.mk _ = tab
  have h256 : tab.size = 256 := by rw [← hT]; decide +kernel
  have hget : ∀ i : Fin 256, (tab.get! i.val).toNat = popN 8 i.val := by rw [← hT]; decide +kernel
  clear hT
  have hix : ∀ (x : S) (w : World), x.toNat < 256 → (Instr.index 9 (.string tab) (.int .u32 (iv x))).run Try.prog w = .ok (.int .u8 (popN 8 x.toNat : Nat)) w := by
    intro x w hx
    have h0 : 0 ≤ iv x ∧ iv x < tab.size := by rw [h256]; unfold iv; omega
    rw [run_index_string w _ _ _ _ (by kernel_rfl), dif_pos h0]
    have e := hget ⟨x.toNat, hx⟩
    have e2 : tab[(iv x).toNat]'(by omega) = tab.get! x.toNat := by
      have : (iv x).toNat = x.toNat := by unfold iv; omega
      simp only [this]
      rw [ByteArray.get!, getElem!_pos tab.data x.toNat (by show x.toNat < tab.size; omega)]
      rfl
    rw [e2, e]
  have x0 := fun w => hix (s >>> 24) w b0
  have x1 := fun w => hix (s >>> 16 &&& 255#32) w b1
  have x2 := fun w => hix (s >>> 8 &&& 255#32) w b2
  have x3 := fun w => hix (s &&& 255#32) w b3
  clear hix hget h256 b0 b1 b2 b3
  have l0 := popN_le 8 (s >>> 24).toNat
  have l1 := popN_le 8 (s >>> 16 &&& 255#32).toNat
  have l2 := popN_le 8 (s >>> 8 &&& 255#32).toNat
  have l3 := popN_le 8 (s &&& 255#32).toNat
  generalize popN 8 (s >>> 24).toNat = n0 at *
  generalize popN 8 (s >>> 16 &&& 255#32).toNat = n1 at *
  generalize popN 8 (s >>> 8 &&& 255#32).toNat = n2 at *
  generalize popN 8 (s &&& 255#32).toNat = n3 at *
  go_wp2
  go_quiet (fail)
  go_wp2
  go_ret
  exact ⟨ret_int (by rw [hp.out]; simp), _, rfl⟩

theorem cmpInt_any (x y : Int) (w : World) :
    Calls Try.prog 45 #[.int .i64 x, .int .i64 y] w fun e w' => e = .returned (.int .i64 (cmpI x y)) ∧ w = w' := by
  have hx : ((x : Int) != x) = false := by simp
  have hy : ((y : Int) != y) = false := by simp
  rcases (show x < y ∨ (¬ x < y ∧ y < x) ∨ (¬ x < y ∧ ¬ y < x) by omega) with h | ⟨h1, h2⟩ | ⟨h1, h2⟩
  · have e : cmpI x y = -1 := by simp [cmpI, h]
    rw [e]; clear e
    go_enter Try.func45, Try.ntmps45
    go_wp2
    go_ret
    exact ⟨rfl, rfl⟩
  · have e : cmpI x y = 1 := by simp [cmpI, h1, h2]
    rw [e]; clear e
    go_enter Try.func45, Try.ntmps45
    go_wp2
    go_ret
    exact ⟨rfl, rfl⟩
  · have e : cmpI x y = 0 := by simp [cmpI, h1, h2]
    rw [e]; clear e
    go_enter Try.func45, Try.ntmps45
    go_wp2
    go_ret
    exact ⟨rfl, rfl⟩
theorem cmpSet_any (a b : S) (w : World) :
    Calls Try.prog 47 #[enc a, enc b] w fun e w' => e = .returned (.int .i64 (cmpI (iv a) (iv b))) ∧ w = w' := by
  have hx : (a != a) = false := by simp
  have hy : (b != b) = false := by simp
  unfold enc
  rcases (show iv a < iv b ∨ (¬ iv a < iv b ∧ iv b < iv a) ∨ (¬ iv a < iv b ∧ ¬ iv b < iv a) by omega) with h | ⟨h1, h2⟩ | ⟨h1, h2⟩
  · have e : cmpI (iv a) (iv b) = -1 := by simp [cmpI, h]
    rw [e]; clear e
    go_enter Try.func47, Try.ntmps47
    go_wp2
    go_ret
    exact ⟨rfl, rfl⟩
  · have e : cmpI (iv a) (iv b) = 1 := by simp [cmpI, h1, h2]
    rw [e]; clear e
    go_enter Try.func47, Try.ntmps47
    go_wp2
    go_ret
    exact ⟨rfl, rfl⟩
  · have e : cmpI (iv a) (iv b) = 0 := by simp [cmpI, h1, h2]
    rw [e]; clear e
    go_enter Try.func47, Try.ntmps47
    go_wp2
    go_ret
    exact ⟨rfl, rfl⟩

theorem order_any (a b : S) (w : World) :
    Calls Try.prog 38 #[enc a, enc b] w fun e w' => e = .returned (.int .i64 (cmpS a b)) ∧ ∃ q, w' = w.drewN q := by
  have c1 := fun w => ones_any a w
  have c2 := fun w => ones_any b w
  have c3 := fun w => cmpInt_any (pop a : Nat) (pop b : Nat) w
  have c4 := fun w => cmpSet_any a b w
  have C1 := hid c1; have C2 := hid c2; have C3 := hid c3; have C4 := hid c4
  clear c1 c2 c3 c4
  unfold enc at *
  by_cases h : cmpI (pop a) (pop b) = 0
  · have e : cmpS a b = cmpI (iv a) (iv b) := by unfold cmpS; rw [if_neg (by simp [h])]
    rw [e]; clear e
    generalize cmpI (iv a) (iv b) = r at *
    have H := hid h
    clear h
    go_enter Try.func38, Try.ntmps38
    go_wp2_with fail
    refine (C1.out _).mono ?_
    rintro e w' ⟨rfl, q1, rfl⟩
    go_wp2_with fail
    refine (C2.out _).mono ?_
    rintro e w' ⟨rfl, q2, rfl⟩
    go_wp2_with fail
    refine (C3.out _).mono ?_
    rw [H.out]
    rintro e w' ⟨rfl, rfl⟩
    go_wp2_with fail
    refine (C4.out _).mono ?_
    rintro e w' ⟨rfl, rfl⟩
    go_wp2_with fail
    go_ret
    exact ⟨rfl, _, rfl⟩
  · have e : cmpS a b = cmpI (pop a) (pop b) := by unfold cmpS; rw [if_pos h]
    rw [e]; clear e
    have hne : (cmpI (pop a) (pop b) != (0 : Int)) = true := by simpa using h
    clear h
    generalize cmpI (pop a) (pop b) = r at *
    go_enter Try.func38, Try.ntmps38
    go_wp2_with fail
    refine (C1.out _).mono ?_
    rintro e w' ⟨rfl, q1, rfl⟩
    go_wp2_with fail
    refine (C2.out _).mono ?_
    rintro e w' ⟨rfl, q2, rfl⟩
    go_wp2_with fail
    refine (C3.out _).mono ?_
    rintro e w' ⟨rfl, rfl⟩
    go_wp2_with fail
    go_ret
    exact ⟨rfl, _, rfl⟩

end Go.Proofs.Ytpjcdiffigeajaa
