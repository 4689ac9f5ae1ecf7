/- Plain laws of the trace: where it ends, what it used; the closure by rounds. No program. -/
import Derived.Test.YtmlbmdcmedglaaaDoorFdL
namespace Go.Proofs.YtmlbmdcmedglaaaDoor

/-- The closure after some rounds, where they suffice. -/
def iterF (fs : List F) : Nat → S → S
  | 0, s => s
  | n + 1, s => iterF fs n (passF fs s)
theorem iterF_mid {fs : List F} {s : S} : ∀ (n : Nat) (t : S), Mid fs s t → Mid fs s (iterF fs n t) := by
  intro n
  induction n with
  | zero => intro t h; exact h
  | succ n ih => intro t h; exact ih _ h.pass
theorem closeS_iter {fs : List F} {s : S} (n : Nat) (h : closedF fs (iterF fs n s)) : closeS fs s = iterF fs n s := closeS_of ((iterF_mid n s (mid_refl fs s)).close h)

def traceUse (fs : List F) (l : List Nat) : List F := l.map fun i => fs.getD i (0#32, 0#32)
def traceEnd (fs : List F) (s : S) (l : List Nat) : S := l.foldl (fun t i => t ||| (fs.getD i (0#32, 0#32)).2) s
theorem traceUse_next {fs : List F} {l : List Nat} {k i : Nat} {f : F} (h : l[k]? = some i) (hf : fs[i]? = some f) : traceUse fs (l.take (k + 1)) = traceUse fs (l.take k) ++ [f] := by
  unfold traceUse; rw [take_next h, List.map_append]; simp [List.getD, hf]
theorem traceEnd_next {fs : List F} {s : S} {l : List Nat} {k i : Nat} {f : F} (h : l[k]? = some i) (hf : fs[i]? = some f) : traceEnd fs s (l.take (k + 1)) = traceEnd fs s (l.take k) ||| f.2 := by
  unfold traceEnd; rw [take_next h, List.foldl_append]; simp [List.getD, hf]
theorem trace_spec (fs : List F) : ∀ (n : Nat) (s : S), 2 ^ 32 - s.toNat ≤ n → (∀ i ∈ traceS fs s, i < fs.length) ∧ closedF fs (traceEnd fs s (traceS fs s)) ∧ sub s (traceEnd fs s (traceS fs s)) ∧ ∀ f ∈ traceUse fs (traceS fs s), sub f.2 (traceEnd fs s (traceS fs s)) := by
  intro n
  induction n with
  | zero => intro s h; have := s.isLt; omega
  | succ n ih =>
    intro s h
    cases hf : fs.findIdx? (enl s) with
    | none =>
      rw [traceS_none hf]
      refine ⟨by simp, ?_, sub_refl s, by simp [traceUse]⟩
      show closedF fs s
      rw [closed_iff, List.any_eq_false]
      rw [List.findIdx?_eq_none_iff] at hf
      intro x hx; simpa using hf x hx
    | some i =>
      obtain ⟨hi, he, _⟩ := List.findIdx?_eq_some_iff_getElem.1 hf
      have hg := enl_grows he
      have hget : fs[i]? = some fs[i] := List.getElem?_eq_getElem hi
      obtain ⟨h1, h2, h3, h4⟩ := ih (s ||| fs[i].2) (by omega)
      rw [traceS_some hf hget]
      have e : traceEnd fs s (i :: traceS fs (s ||| fs[i].2)) = traceEnd fs (s ||| fs[i].2) (traceS fs (s ||| fs[i].2)) := by
        unfold traceEnd; rw [List.foldl_cons]; simp [List.getD, hget]
      rw [e]
      refine ⟨fun j hj => ?_, h2, sub_trans (sub_or_left _ _) h3, fun f hf => ?_⟩
      · rcases List.mem_cons.1 hj with rfl | hj
        · exact hi
        · exact h1 j hj
      · have hc : traceUse fs (i :: traceS fs (s ||| fs[i].2)) = fs[i] :: traceUse fs (traceS fs (s ||| fs[i].2)) := by
          unfold traceUse; rw [List.map_cons]; simp [List.getD, hget]
        rw [hc] at hf
        rcases List.mem_cons.1 hf with rfl | hf
        · exact sub_trans (sub_or_right _ _) h3
        · exact h4 f hf
theorem traceN_length (fs : List F) : ∀ (n : Nat) (s : S), (traceN fs n s).length ≤ n := by
  intro n
  induction n with
  | zero => intro s; simp [traceN]
  | succ n ih =>
    intro s
    unfold traceN
    split
    · simp
    · rename_i i _; rw [List.length_cons]; have := ih (s ||| (fs.getD i (0#32, 0#32)).2); omega
theorem traceS_length (fs : List F) (s : S) : (traceS fs s).length ≤ 4294967296 := by
  have := traceN_length fs (2 ^ 32 - s.toNat) s
  unfold traceS; omega
theorem trace_use_closed (fs : List F) (s : S) : closeS (traceUse fs (traceS fs s)) (traceEnd fs s (traceS fs s)) = traceEnd fs s (traceS fs s) :=
  closeS_closed fun f hf _ => (trace_spec fs _ s (Nat.le_refl _)).2.2.2 f hf

theorem and_closed {fs : List F} {a b : S} (ha : closedF fs a) (hb : closedF fs b) : closedF fs (a &&& b) := by
  intro f hf h
  have h1 : sub f.1 a := fun i hi x => by have := h i hi x; rw [BitVec.getLsbD_and, Bool.and_eq_true] at this; exact this.1
  have h2 : sub f.1 b := fun i hi x => by have := h i hi x; rw [BitVec.getLsbD_and, Bool.and_eq_true] at this; exact this.2
  intro i hi x
  rw [BitVec.getLsbD_and, ha f hf h1 i hi x, hb f hf h2 i hi x]; rfl

end Go.Proofs.YtmlbmdcmedglaaaDoor
