/- Plain: what is known of a recipe's table. -/
import Derived.Test.YtalejolehccclaaGreatDoorKmA
namespace Go.Proofs.YtalejolehccclaaGreatDoor
open Go.RowKit
set_option linter.unusedVariables false

theorem rowsE_vals : ∀ (rs : List Row3) (last : Int) (m : Nat), rowsE last m rs = 0 -> ∀ r ∈ rs, r.2.2.any badV = false := by
 intro rs
 induction rs with
 | nil => intro last m _ r hr; cases hr
 | cons r rs ih =>
  intro last m h
  unfold rowsE at h
  split at h
  ·cases h
  ·split at h
   ·cases h
   ·split at h
    ·cases h
    ·rename_i h3
     intro q hq
     rcases List.mem_cons.1 hq with rfl | hq
     ·simpa using h3
     ·exact ih _ _ h q hq
theorem good_okT {t : T3} (h : GoodT t) : okT t := by
 intro r hr x hx
 have h1 := rowsE_vals _ _ _ (tabE_rows (tabE2_tab h.1)) r hr
 have h2 := h.2.2.2 r hr x hx
 rw [List.any_eq_false] at h1
 have h3 := h1 x hx
 unfold badV at h3
 exact ⟨by simpa using h3, h2.1, h2.2⟩

end Go.Proofs.YtalejolehccclaaGreatDoor
