/- Plain laws of the closed sets of a few attributes: they meet in closed sets. No program. -/
import Derived.Test.YtmlbmdcmedglaaaTraceL
import Derived.Test.YtmlbmdcmedglaaaSubsL
namespace Go.Proofs.Ytmlbmdcmedglaaa

theorem sub_and {a b c : S} (h : sub a b) (k : sub a c) : sub a (b &&& c) := fun i hi x => by rw [BitVec.getLsbD_and, h i hi x, k i hi x]; rfl
def meetF (t : S) (ys : List S) (acc : S) : S := ys.foldl (fun acc c => if sub t c then acc &&& c else acc) acc
theorem meetF_next {t : S} {ys : List S} {k : Nat} {c : S} (h : ys[k]? = some c) (acc : S) : meetF t (ys.take (k + 1)) acc = if sub t c then meetF t (ys.take k) acc &&& c else meetF t (ys.take k) acc := by
  unfold meetF; rw [take_next h, List.foldl_append]; rfl
theorem meetF_le (t : S) : ∀ (ys : List S) (acc : S), sub (meetF t ys acc) acc ∧ ∀ c ∈ ys, sub t c → sub (meetF t ys acc) c := by
  intro ys
  induction ys with
  | nil => intro acc; exact ⟨sub_refl _, by simp⟩
  | cons y ys ih =>
    intro acc
    have e : meetF t (y :: ys) acc = meetF t ys (if sub t y then acc &&& y else acc) := rfl
    rw [e]
    obtain ⟨h1, h2⟩ := ih (if sub t y then acc &&& y else acc)
    have h3 : sub (if sub t y then acc &&& y else acc) acc := by
      split
      · exact and_sub_left _ _
      · exact sub_refl _
    refine ⟨sub_trans h1 h3, fun c hc htc => ?_⟩
    rcases List.mem_cons.1 hc with rfl | hc
    · rw [if_pos htc] at h1 ⊢
      exact sub_trans h1 (and_sub_right _ _)
    · exact h2 c hc htc
theorem meetF_ge (t d : S) : ∀ (ys : List S) (acc : S), sub d acc → (∀ c ∈ ys, sub t c → sub d c) → sub d (meetF t ys acc) := by
  intro ys
  induction ys with
  | nil => intro acc h _; exact h
  | cons y ys ih =>
    intro acc h hc
    refine ih _ ?_ fun c hm => hc c (List.mem_cons_of_mem _ hm)
    show sub d (if sub t y then acc &&& y else acc)
    split
    · rename_i ht; exact sub_and h (hc y (List.mem_cons_self ..) ht)
    · exact h
/-- The closure is what the closed sets above have in common. -/
theorem meet_close {fs : List F} {a t : S} {ys : List S} (hys : ∀ s, s ∈ ys ↔ sub s a ∧ closedF fs s) (ha : closedF fs a) (ht : sub t a) : meetF t ys a = closeS fs t := by
  obtain ⟨h1, h2, h3⟩ := closeS_cl fs t
  have hca : sub (closeS fs t) a := h3 a ht ha
  obtain ⟨_, h4⟩ := meetF_le t ys a
  exact sub_antisymm (h4 _ ((hys _).2 ⟨hca, h2⟩) h1) (meetF_ge t _ ys a hca fun c hc htc => h3 c htc ((hys c).1 hc).2)

end Go.Proofs.Ytmlbmdcmedglaaa
