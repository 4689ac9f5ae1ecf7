/- Texts that belong together, in one file. -/
import Derived.Test.YtcfcmalaabmceaaGreatDoorKmE
import Derived.Test.YtcfcmalaabmceaaGreatDoorGKm3
import Derived.Test.YtcfcmalaabmceaaGreatDoorGSmall
import Derived.Test.YtcfcmalaabmceaaGreatDoorGTab20
/- The walk of awake of chapter 29: the chapter's example holds. -/
namespace Go.Proofs.YtcfcmalaabmceaaGreatDoor
open Go.RowKit
set_option linter.unusedVariables false

/-! The example's values. -/
variable (s1 s2 s3 : Value)


theorem RdG.one {w : World} {v : Value} {gs : List Gp} (h : RdG w v gs) {xs : List Int} (he : gs.map (·.2) = [xs]) : ∃ ao cap gv, v = .slice ao 1 cap ∧ (∃ b off, ao = some ⟨b, off, none⟩ ∧ ∀ wr, Below w.heap.size w wr → wr.cell? ⟨b, off, none⟩ = some gv) ∧ RdE encJ w gv xs := by
  match gs, he with
  | [(gv, gl)], he =>
    simp only [List.map_cons, List.map_nil, List.cons.injEq, and_true] at he
    subst he
    obtain ⟨ao, cap, rfl, -, hc⟩ := h.1.split
    obtain ⟨b, off, rfl, hd⟩ := hc 0 (gv, gl) rfl
    exact ⟨_, cap, gv, rfl, ⟨b, off, rfl, fun wr hn => by have := hd wr hn; simpa using this⟩, h.2 (gv, gl) (by simp)⟩


end Go.Proofs.YtcfcmalaabmceaaGreatDoor


/- Plain: what is known of a recipe's table. -/
namespace Go.Proofs.YtcfcmalaabmceaaGreatDoor
open Go.RowKit
set_option linter.unusedVariables false

theorem rowsE_vals : ∀ (rs : List Row3) (last : Int) (m : Nat), rowsE last m rs = 0 → ∀ r ∈ rs, r.2.2.any badV = false := by
  intro rs
  induction rs with
  | nil => intro last m _ r hr; cases hr
  | cons r rs ih =>
    intro last m h
    unfold rowsE at h
    split at h
    · cases h
    · split at h
      · cases h
      · split at h
        · cases h
        · rename_i h3
          intro q hq
          rcases List.mem_cons.1 hq with rfl | hq
          · simpa using h3
          · exact ih _ _ h q hq
theorem good_okT {t : T3} (h : GoodT t) : okT t := by
  intro r hr x hx
  have h1 := rowsE_vals _ _ _ (tabE_rows (tabE2_tab h.1)) r hr
  have h2 := h.2.2.2 r hr x hx
  rw [List.any_eq_false] at h1
  have h3 := h1 x hx
  unfold badV at h3
  exact ⟨by simpa using h3, h2.1, h2.2⟩

end Go.Proofs.YtcfcmalaabmceaaGreatDoor

