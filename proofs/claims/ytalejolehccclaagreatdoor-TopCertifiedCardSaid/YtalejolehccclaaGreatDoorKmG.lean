/- Plain: what is known of a recipe's table. -/
import Derived.Test.YtalejolehccclaaGreatDoorKmA
namespace Go.Proofs.YtalejolehccclaaGreatDoor
open Go.RowKit
set_option linter.unusedVariables false

theorem rowsE_vals : ∀ (rs : List Row3) (last : Int) (m : Nat), rowsE last m rs = 0 → ∀ r ∈ rs, r.2.2.any badV = false := by
  intro rs
  induction rs with
  | nil => intro last m _ r hr; cases hr
  | cons r rs ih =>
    intro last m h
    unfold rowsE at h
    split at h
    · cases h
    · split at h
      · cases h
      · split at h
        · cases h
        · rename_i h3
          intro q hq
          rcases List.mem_cons.1 hq with rfl | hq
          · simpa using h3
          · exact ih _ _ h q hq
theorem good_okT {t : T3} (h : GoodT t) : okT t := by
  intro r hr x hx
  have h1 := rowsE_vals _ _ _ (tabE_rows (tabE2_tab h.1)) r hr
  have h2 := h.2.2.2 r hr x hx
  rw [List.any_eq_false] at h1
  have h3 := h1 x hx
  unfold badV at h3
  exact ⟨by simpa using h3, h2.1, h2.2⟩
theorem good_kE {t : T3} (h : GoodT t) : kE t 0#32 true = 0 := by
  have h1 := h.2.1
  have h2 := h.2.2.1
  unfold kE
  rw [if_neg (by rw [tabE2_tab h.1]; simp), if_neg (by rintro (h | ⟨_, h⟩) <;> omega), if_neg (by simp)]
theorem good_wits {t : T3} (h : GoodT t) : (witsL t.2.2).length ≤ 200 := by
  have h1 := witsL_length t.2.2
  have h2 : t.2.2.length * t.2.2.length ≤ 8 * 8 := Nat.mul_le_mul h.2.2.1 h.2.2.1
  omega

end Go.Proofs.YtalejolehccclaaGreatDoor
