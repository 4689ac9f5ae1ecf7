/- Plain laws of closures: dependencies as pairs of sets, the least closed set, the trace. No program. -/
import Derived.Test.YtmlbmdcmedglaaaDoorOrdL
namespace Go.Proofs.YtmlbmdcmedglaaaDoor

theorem snocRec {α : Type} {p : List α → Prop} (nil : p []) (snoc : ∀ (l : List α) (x : α), p l → p (l ++ [x])) : ∀ l, p l := by
  intro l
  have h : ∀ m : List α, p m.reverse := by
    intro m
    induction m with
    | nil => exact nil
    | cons a m ih => rw [List.reverse_cons]; exact snoc _ a ih
  rw [← List.reverse_reverse l]; exact h _

/-- A dependency: its left and its right side. -/
abbrev F := S × S

theorem sub_or_left (a b : S) : sub a (a ||| b) := fun i hi h => by rw [BitVec.getLsbD_or, h]; rfl
theorem sub_or_right (a b : S) : sub b (a ||| b) := fun i hi h => by rw [BitVec.getLsbD_or, h]; simp
theorem or_sub {a b c : S} (h : sub a c) (k : sub b c) : sub (a ||| b) c := fun i hi x => by
  rw [BitVec.getLsbD_or, Bool.or_eq_true] at x
  exact x.elim (h i hi) (k i hi)
theorem sub_toNat {a b : S} (h : sub a b) : a.toNat ≤ b.toNat := by
  rw [← and_self_iff] at h
  rw [← h, BitVec.toNat_and]
  exact Nat.and_le_right
theorem sub_toNat_lt {a b : S} (h : sub a b) (hne : a ≠ b) : a.toNat < b.toNat := by
  have := sub_toNat h
  have : a.toNat ≠ b.toNat := fun e => hne (BitVec.eq_of_toNat_eq e)
  omega
theorem or_of_sub {a b : S} (h : sub b a) : a ||| b = a := sub_antisymm (or_sub (sub_refl a) h) (sub_or_left a b)
instance (a b : S) : Decidable (sub a b) := decidable_of_iff _ and_self_iff
theorem beq_sub (a b : S) : (a &&& b == a) = decide (sub a b) := by rw [Bool.eq_iff_iff, beq_iff_eq, decide_eq_true_iff]; exact and_self_iff
theorem beq_sub' (a b : S) : (a &&& ~~~ b == 0#32) = decide (sub a b) := by rw [Bool.eq_iff_iff, beq_iff_eq, decide_eq_true_iff]; exact andNot_zero_iff
theorem sub_zero (a : S) : sub 0#32 a := fun i hi h => by simp at h

/-- One dependency applied to a set. -/
def stepF (s : S) (f : F) : S := if sub f.1 s then s ||| f.2 else s
def passF (fs : List F) (s : S) : S := fs.foldl stepF s
theorem passF_next {fs : List F} {k : Nat} {f : F} (h : fs[k]? = some f) (s : S) : passF (fs.take (k + 1)) s = stepF (passF (fs.take k) s) f := by
  unfold passF; rw [take_next h, List.foldl_append]; rfl
theorem passF_zero (fs : List F) (s : S) : passF (fs.take 0) s = s := rfl
theorem stepF_yes {s : S} {f : F} (h : sub f.1 s) : stepF s f = s ||| f.2 := if_pos h
theorem stepF_no {s : S} {f : F} (h : ¬ sub f.1 s) : stepF s f = s := if_neg h
theorem stepF_sub (s : S) (f : F) : sub s (stepF s f) := by
  unfold stepF; split
  · exact sub_or_left _ _
  · exact sub_refl _
theorem passF_sub (fs : List F) : ∀ s, sub s (passF fs s) := by
  induction fs with
  | nil => intro s; exact sub_refl s
  | cons f fs ih => intro s; exact sub_trans (stepF_sub s f) (ih _)

/-- A set is closed under a list. -/
def closedF (fs : List F) (s : S) : Prop := ∀ f ∈ fs, sub f.1 s → sub f.2 s
instance (fs : List F) (s : S) : Decidable (closedF fs s) := inferInstanceAs (Decidable (∀ f ∈ fs, sub f.1 s → sub f.2 s))
theorem stepF_below {fs : List F} {s d : S} {f : F} (hf : f ∈ fs) (hd : closedF fs d) (h : sub s d) : sub (stepF s f) d := by
  unfold stepF; split
  · rename_i h1; exact or_sub h (hd f hf (sub_trans h1 h))
  · exact h
theorem passF_below {fs : List F} {d : S} (hd : closedF fs d) : ∀ (gs : List F), (∀ g ∈ gs, g ∈ fs) → ∀ s, sub s d → sub (passF gs s) d := by
  intro gs
  induction gs with
  | nil => intro _ s h; exact h
  | cons g gs ih => intro hg s h; exact ih (fun x hx => hg x (List.mem_cons_of_mem _ hx)) _ (stepF_below (hg g (List.mem_cons_self ..)) hd h)
theorem passF_fix {s : S} : ∀ {fs : List F}, passF fs s = s → closedF fs s := by
  intro fs
  induction fs with
  | nil => intro _ f hf; cases hf
  | cons g fs ih =>
    intro h f hf
    have h1 : stepF s g = s := by
      apply sub_antisymm _ (stepF_sub s g)
      have := passF_sub fs (stepF s g)
      rwa [show passF fs (stepF s g) = s from h] at this
    have h2 : passF fs s = s := by
      have h' : passF fs (stepF s g) = s := h
      rwa [h1] at h'
    rcases List.mem_cons.1 hf with rfl | hf
    · intro h3
      rw [stepF_yes h3] at h1
      rw [← h1]; exact sub_or_right _ _
    · exact ih h2 f hf
theorem closed_fix {fs : List F} {s : S} (h : closedF fs s) : passF fs s = s :=
  sub_antisymm (passF_below h fs (fun _ h => h) s (sub_refl s)) (passF_sub fs s)

/-- c is the closure of s. -/
def IsCl (fs : List F) (s c : S) : Prop := sub s c ∧ closedF fs c ∧ ∀ d, sub s d → closedF fs d → sub c d
theorem IsCl.uniq {fs : List F} {s c d : S} (h : IsCl fs s c) (k : IsCl fs s d) : c = d := sub_antisymm (h.2.2 d k.1 k.2.1) (k.2.2 c h.1 h.2.1)
/-- t lies between s and its closure. -/
def Mid (fs : List F) (s t : S) : Prop := sub s t ∧ ∀ d, sub s d → closedF fs d → sub t d
theorem mid_refl (fs : List F) (s : S) : Mid fs s s := ⟨sub_refl s, fun _ h _ => h⟩
theorem Mid.pass {fs : List F} {s t : S} (h : Mid fs s t) : Mid fs s (passF fs t) :=
  ⟨sub_trans h.1 (passF_sub fs t), fun d hd hc => passF_below hc fs (fun _ h => h) t (h.2 d hd hc)⟩
theorem Mid.step {fs : List F} {s t : S} {f : F} (h : Mid fs s t) (hf : f ∈ fs) (h1 : sub f.1 t) : Mid fs s (t ||| f.2) :=
  ⟨sub_trans h.1 (sub_or_left _ _), fun d hd hc => or_sub (h.2 d hd hc) (hc f hf (sub_trans h1 (h.2 d hd hc)))⟩
theorem Mid.close {fs : List F} {s t : S} (h : Mid fs s t) (hc : closedF fs t) : IsCl fs s t := ⟨h.1, hc, h.2⟩
theorem exists_cl (fs : List F) (s : S) : ∀ (n : Nat) (t : S), 2 ^ 32 - t.toNat ≤ n → Mid fs s t → ∃ c, IsCl fs s c := by
  intro n
  induction n with
  | zero => intro t h _; have := t.isLt; omega
  | succ n ih =>
    intro t h hm
    by_cases hp : passF fs t = t
    · exact ⟨t, hm.close (passF_fix hp)⟩
    · refine ih (passF fs t) ?_ hm.pass
      have := sub_toNat_lt (passF_sub fs t) (Ne.symm hp)
      omega
/-- The closure. -/
noncomputable def closeS (fs : List F) (s : S) : S := Classical.choose (exists_cl fs s _ s (Nat.le_refl _) (mid_refl fs s))
theorem closeS_cl (fs : List F) (s : S) : IsCl fs s (closeS fs s) := Classical.choose_spec (exists_cl fs s _ s (Nat.le_refl _) (mid_refl fs s))
theorem closeS_of {fs : List F} {s c : S} (h : IsCl fs s c) : closeS fs s = c := (closeS_cl fs s).uniq h
theorem closeS_fix {fs : List F} {s t : S} (h : Mid fs s t) (hp : passF fs t = t) : closeS fs s = t := closeS_of (h.close (passF_fix hp))
theorem closeS_closed {fs : List F} {s : S} (h : closedF fs s) : closeS fs s = s := closeS_of ((mid_refl fs s).close h)
theorem closeS_mono {fs : List F} {s t : S} (h : sub s t) : sub (closeS fs s) (closeS fs t) := (closeS_cl fs s).2.2 _ (sub_trans h (closeS_cl fs t).1) (closeS_cl fs t).2.1
theorem pass_grows {fs : List F} {t : S} (hp : passF fs t ≠ t) : t.toNat < (passF fs t).toNat := sub_toNat_lt (passF_sub fs t) (Ne.symm hp)

/-- A dependency follows. -/
noncomputable def impS (fs : List F) (f : F) : Bool := decide (sub f.2 (closeS fs f.1))

/-- A dependency enlarges a set. -/
def enl (s : S) (f : F) : Bool := decide (sub f.1 s) && !decide (sub f.2 s)
theorem closed_iff {fs : List F} {s : S} : closedF fs s ↔ fs.any (enl s) = false := by
  rw [List.any_eq_false]
  refine ⟨fun h f hf e => ?_, fun h f hf h1 => ?_⟩
  · unfold enl at e; simp at e; exact e.2 (h f hf e.1)
  · have := h f hf; unfold enl at this; simp at this; exact this h1

/-- The trace of a set. -/
def traceN (fs : List F) : Nat → S → List Nat
  | 0, _ => []
  | n + 1, s => match fs.findIdx? (enl s) with
    | none => []
    | some i => i :: traceN fs n (s ||| (fs.getD i (0#32, 0#32)).2)
theorem enl_grows {s : S} {f : F} (h : enl s f = true) : s.toNat < (s ||| f.2).toNat := by
  unfold enl at h; simp at h
  refine sub_toNat_lt (sub_or_left _ _) fun e => h.2 ?_
  rw [e]; exact sub_or_right _ _
theorem traceN_more (fs : List F) : ∀ (n m : Nat) (s : S), 2 ^ 32 - s.toNat ≤ n → n ≤ m → traceN fs m s = traceN fs n s := by
  intro n
  induction n with
  | zero => intro m s h _; have := s.isLt; omega
  | succ n ih =>
    intro m s h hm
    obtain ⟨m, rfl⟩ : ∃ k, m = k + 1 := ⟨m - 1, by omega⟩
    unfold traceN
    cases hf : fs.findIdx? (enl s) with
    | none => rfl
    | some i =>
      simp only [List.cons.injEq, true_and]
      obtain ⟨hi, he, _⟩ := List.findIdx?_eq_some_iff_getElem.1 hf
      have := enl_grows he
      have e : fs.getD i (0#32, 0#32) = fs[i] := by simp [List.getD, hi]
      rw [e]
      exact ih m _ (by omega) (by omega)
def traceS (fs : List F) (s : S) : List Nat := traceN fs (2 ^ 32 - s.toNat) s
theorem traceS_none {fs : List F} {s : S} (h : fs.findIdx? (enl s) = none) : traceS fs s = [] := by
  unfold traceS
  obtain ⟨n, hn⟩ : ∃ n, 2 ^ 32 - s.toNat = n + 1 := ⟨2 ^ 32 - s.toNat - 1, by have := s.isLt; omega⟩
  rw [hn]; unfold traceN; rw [h]
theorem traceS_some {fs : List F} {s : S} {i : Nat} {f : F} (h : fs.findIdx? (enl s) = some i) (hf : fs[i]? = some f) : traceS fs s = i :: traceS fs (s ||| f.2) := by
  obtain ⟨hi, he, _⟩ := List.findIdx?_eq_some_iff_getElem.1 h
  obtain ⟨_, rfl⟩ := List.getElem?_eq_some_iff.1 hf
  have hg := enl_grows he
  have e : fs.getD i (0#32, 0#32) = fs[i] := by simp [List.getD, hi]
  unfold traceS
  obtain ⟨n, hn⟩ : ∃ n, 2 ^ 32 - s.toNat = n + 1 := ⟨2 ^ 32 - s.toNat - 1, by have := s.isLt; omega⟩
  rw [hn]; conv => lhs; unfold traceN
  rw [h]
  simp only [List.cons.injEq, true_and]
  rw [e]
  exact traceN_more fs _ n _ (Nat.le_refl _) (by omega)

/-- The first dependency of the second list that the first one does not imply. -/
noncomputable def missN (fs : List F) (f : F) : Bool := !impS fs f
noncomputable def missI (fs gs : List F) : Int := match gs.findIdx? (missN fs) with
  | none => 0
  | some i => i
noncomputable def missB (fs gs : List F) : Bool := gs.any (missN fs)
noncomputable def equS (fs gs : List F) : Bool := !missB fs gs && !missB gs fs

end Go.Proofs.YtmlbmdcmedglaaaDoor
