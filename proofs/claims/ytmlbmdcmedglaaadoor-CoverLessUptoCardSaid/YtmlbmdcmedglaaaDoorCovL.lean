/- Plain laws of covers: what follows, lists without repeats, one attribute on the right, the minimal and the canonical cover. No program. -/
import Derived.Test.YtmlbmdcmedglaaaDoorSubsL
import Derived.Test.YtmlbmdcmedglaaaDoorTransL
namespace Go.Proofs.YtmlbmdcmedglaaaDoor

theorem imp_iff {fs : List F} {f : F} : impS fs f = true ↔ ∀ d, closedF fs d → sub f.1 d → sub f.2 d := by
  unfold impS
  rw [decide_eq_true_iff]
  obtain ⟨h1, h2, h3⟩ := closeS_cl fs f.1
  exact ⟨fun h d hd hs => sub_trans h (h3 d hs hd), fun h => h _ h2 h1⟩
/-- Two lists from which the same follows: the same sets are closed. -/
def Eqv (l m : List F) : Prop := ∀ d, closedF l d ↔ closedF m d
theorem Eqv.refl (l : List F) : Eqv l l := fun _ => Iff.rfl
theorem Eqv.symm {l m : List F} (h : Eqv l m) : Eqv m l := fun d => (h d).symm
theorem Eqv.trans {l m n : List F} (h : Eqv l m) (k : Eqv m n) : Eqv l n := fun d => (h d).trans (k d)
theorem Eqv.imp {l m : List F} (h : Eqv l m) (f : F) : impS l f = impS m f := by
  rw [Bool.eq_iff_iff, imp_iff, imp_iff]
  exact ⟨fun k d hd => k d ((h d).2 hd), fun k d hd => k d ((h d).1 hd)⟩
theorem Eqv.close {l m : List F} (h : Eqv l m) (s : S) : closeS l s = closeS m s := by
  obtain ⟨h1, h2, h3⟩ := closeS_cl l s
  exact (closeS_of ⟨h1, (h _).1 h2, fun d hd hc => h3 d hd ((h d).2 hc)⟩).symm
theorem eqv_of_mem {l m : List F} (h : ∀ f, f ∈ l ↔ f ∈ m) : Eqv l m := fun _ => ⟨fun k f hf => k f ((h f).2 hf), fun k f hf => k f ((h f).1 hf)⟩
theorem closed_mono {l m : List F} (h : ∀ f ∈ m, f ∈ l) {d : S} (hd : closedF l d) : closedF m d := fun f hf => hd f (h f hf)
theorem imp_mono {l m : List F} (h : ∀ f ∈ m, f ∈ l) {f : F} (k : impS m f = true) : impS l f = true :=
  imp_iff.2 fun _ hd => imp_iff.1 k _ (closed_mono h hd)
theorem imp_of_mem {l : List F} {f : F} (h : f ∈ l) : impS l f = true := imp_iff.2 fun _ hd => hd f h
theorem imp_left {l : List F} {a b c : S} (h : impS l (a, c) = true) (k : sub a b) : impS l (b, c) = true :=
  imp_iff.2 fun d hd hs => imp_iff.1 h d hd (sub_trans k hs)
theorem imp_right {l : List F} {a b c : S} (h : impS l (a, c) = true) (k : sub b c) : impS l (a, b) = true :=
  imp_iff.2 fun d hd hs => sub_trans k (imp_iff.1 h d hd hs)
theorem missB_iff {l m : List F} : missB l m = false ↔ ∀ f ∈ m, impS l f = true := by
  unfold missB
  rw [List.any_eq_false]
  exact ⟨fun h f hf => by have := h f hf; unfold missN at this; simpa using this, fun h f hf => by unfold missN; rw [h f hf]; simp⟩
theorem equ_iff {l m : List F} : equS l m = true ↔ Eqv l m := by
  have e : equS l m = true ↔ missB l m = false ∧ missB m l = false := by unfold equS; cases missB l m <;> cases missB m l <;> simp
  rw [e, missB_iff, missB_iff]
  constructor
  · rintro ⟨h1, h2⟩ d
    exact ⟨fun hd f hf => imp_iff.1 (h1 f hf) d hd, fun hd f hf => imp_iff.1 (h2 f hf) d hd⟩
  · intro h
    exact ⟨fun f hf => by rw [h.imp]; exact imp_of_mem hf, fun f hf => by rw [← h.imp]; exact imp_of_mem hf⟩

/-! Lists without repeats. -/
def onceStep (out : List F) (x : F) : List F := if x ∈ out then out else out ++ [x]
def onceF (l : List F) : List F := l.foldl onceStep []
theorem onceF_next {l : List F} {k : Nat} {x : F} (h : l[k]? = some x) : onceF (l.take (k + 1)) = onceStep (onceF (l.take k)) x := by
  unfold onceF; rw [take_next h, List.foldl_append]; rfl
theorem onceF_snoc (l : List F) (x : F) : onceF (l ++ [x]) = onceStep (onceF l) x := by unfold onceF; rw [List.foldl_append]; rfl
theorem mem_onceStep {out : List F} {x f : F} : f ∈ onceStep out x ↔ f ∈ out ∨ f = x := by
  unfold onceStep; split
  · rename_i h; exact ⟨.inl, fun k => k.elim id fun e => e ▸ h⟩
  · simp
theorem mem_onceF {l : List F} {f : F} : f ∈ onceF l ↔ f ∈ l := by
  induction l using snocRec with
  | nil => simp [onceF]
  | snoc l x ih => rw [onceF_snoc, mem_onceStep, ih]; simp
theorem onceF_nodup (l : List F) : (onceF l).Nodup := by
  induction l using snocRec with
  | nil => simp [onceF]
  | snoc l x ih =>
    rw [onceF_snoc]; unfold onceStep; split
    · exact ih
    · rename_i h
      rw [List.nodup_append]
      refine ⟨ih, by simp, fun a ha b hb => ?_⟩
      simp at hb; subst hb
      rintro rfl; exact h ha
theorem onceF_of_nodup : ∀ {l : List F}, l.Nodup → onceF l = l := by
  intro l
  induction l using snocRec with
  | nil => intro _; rfl
  | snoc l x ih =>
    intro h
    rw [List.nodup_append] at h
    rw [onceF_snoc, ih h.1]
    unfold onceStep
    rw [if_neg fun hx => h.2.2 x hx x (by simp) rfl]
theorem onceF_length (l : List F) : (onceF l).length ≤ l.length := by
  induction l using snocRec with
  | nil => simp [onceF]
  | snoc l x ih =>
    rw [onceF_snoc]; unfold onceStep; split
    · simp; omega
    · simp; omega

/-! One attribute on the right. -/
def splitX (x : F) : List F := (memN (x.2 &&& ~~~ x.1) 32).map fun a => (x.1, bit a)
def splitF (l : List F) : List F := onceF (l.flatMap splitX)
theorem mem_splitX {x f : F} : f ∈ splitX x ↔ ∃ a, a < 32 ∧ x.2.getLsbD a = true ∧ x.1.getLsbD a = false ∧ f = (x.1, bit a) := by
  unfold splitX
  rw [List.mem_map]
  constructor
  · rintro ⟨a, ha, rfl⟩
    rw [mem_memN] at ha
    obtain ⟨ha, hb⟩ := ha
    rw [BitVec.getLsbD_and, BitVec.getLsbD_not] at hb
    simp [ha] at hb
    exact ⟨a, ha, hb.1, hb.2, rfl⟩
  · rintro ⟨a, ha, h1, h2, rfl⟩
    refine ⟨a, mem_memN.2 ⟨ha, ?_⟩, rfl⟩
    rw [BitVec.getLsbD_and, BitVec.getLsbD_not, h1, h2]; simp [ha]
theorem mem_splitF {l : List F} {f : F} : f ∈ splitF l ↔ ∃ x ∈ l, f ∈ splitX x := by
  unfold splitF; rw [mem_onceF, List.mem_flatMap]
theorem bit_sub {a : Nat} (ha : a < 32) {s : S} : sub (bit a) s ↔ s.getLsbD a = true := by
  constructor
  · intro h; exact h a ha (by rw [bit_get a a ha]; simp)
  · intro h i hi hb
    rw [bit_get a i hi, decide_eq_true_iff] at hb
    subst hb; exact h
theorem split_eqv (l : List F) : Eqv (splitF l) l := by
  intro d
  constructor
  · intro h x hx hs a ha hb
    cases hl : x.1.getLsbD a with
    | true => exact hs a ha hl
    | false =>
      have := h (x.1, bit a) (mem_splitF.2 ⟨x, hx, mem_splitX.2 ⟨a, ha, hb, hl, rfl⟩⟩) hs
      exact (bit_sub ha).1 this
  · intro h f hf hs
    obtain ⟨x, hx, hf⟩ := mem_splitF.1 hf
    obtain ⟨a, ha, h1, h2, rfl⟩ := mem_splitX.1 hf
    exact (bit_sub ha).2 (h x hx hs a ha h1)

/-! A list without one dependency. -/
def othersF (l : List F) (i : Nat) : List F := l.take i ++ l.drop (i + 1)
theorem others_length {l : List F} {i : Nat} (h : i < l.length) : (othersF l i).length = l.length - 1 := by
  unfold othersF; simp; omega
theorem mem_others {l : List F} {i : Nat} {f : F} (h : f ∈ othersF l i) : f ∈ l := by
  unfold othersF at h
  rcases List.mem_append.1 h with h | h
  · exact List.mem_of_mem_take h
  · exact List.mem_of_mem_drop h
theorem others_split {l : List F} {i : Nat} {x : F} (h : l[i]? = some x) : l = l.take i ++ x :: l.drop (i + 1) := by
  obtain ⟨hi, rfl⟩ := List.getElem?_eq_some_iff.1 h
  rw [← List.drop_eq_getElem_cons hi, List.take_append_drop]
noncomputable def redB (l : List F) (i : Nat) : Bool := impS (othersF l i) (l.getD i (0#32, 0#32))
theorem redB_at {l : List F} {i : Nat} {x : F} (h : l[i]? = some x) : redB l i = impS (othersF l i) x := by
  unfold redB; simp [List.getD, h]
theorem others_eqv {l : List F} {i : Nat} {x : F} (h : l[i]? = some x) (hr : redB l i = true) : Eqv (othersF l i) l := by
  rw [redB_at h] at hr
  intro d
  refine ⟨fun hd f hf => ?_, fun hd => closed_mono (fun f hf => mem_others hf) hd⟩
  rw [others_split h] at hf
  rcases List.mem_append.1 hf with hf | hf
  · exact hd f (List.mem_append.2 (.inl hf))
  · rcases List.mem_cons.1 hf with rfl | hf
    · exact imp_iff.1 hr d hd
    · exact hd f (List.mem_append.2 (.inr hf))

/-! The attributes of a left side that are not needed are taken out. -/
noncomputable def extrB (l : List F) (x : F) (a : Nat) : Bool := impS l (x.1 &&& ~~~ bit a, x.2)
noncomputable def trimStep (i : Nat) (l : List F) (a : Nat) : List F :=
  match l[i]? with
  | none => l
  | some x => if extrB l x a then l.set i (x.1 &&& ~~~ bit a, x.2) else l
noncomputable def trimN (l : List F) (i : Nat) (as : List Nat) : List F := as.foldl (trimStep i) l
def lhsN (l : List F) (i : Nat) : List Nat := memN (l.getD i (0#32, 0#32)).1 32
noncomputable def trimF (l : List F) : Nat → List F
  | 0 => l
  | k + 1 => trimN (trimF l k) k (lhsN (trimF l k) k)
theorem trimStep_length (i : Nat) (l : List F) (a : Nat) : (trimStep i l a).length = l.length := by
  unfold trimStep; split
  · rfl
  · split
    · simp
    · rfl
theorem trimN_length (i : Nat) : ∀ (as : List Nat) (l : List F), (trimN l i as).length = l.length := by
  intro as
  induction as with
  | nil => intro l; rfl
  | cons a as ih => intro l; exact (ih _).trans (trimStep_length i l a)
theorem trimF_length (l : List F) (k : Nat) : (trimF l k).length = l.length := by
  induction k with
  | zero => rfl
  | succ k ih => unfold trimF; rw [trimN_length, ih]

/-! Dependencies that follow from the others are left out, one after the other. -/
noncomputable def dropF : Nat → List F → Nat → List F
  | 0, l, _ => l
  | n + 1, l, i => if i < l.length then (if redB l i then dropF n (othersF l i) i else dropF n l (i + 1)) else l
noncomputable def dropS (l : List F) (i : Nat) : List F := dropF (l.length - i) l i
theorem dropS_end {l : List F} {i : Nat} (h : ¬ i < l.length) : dropS l i = l := by
  unfold dropS; rw [show l.length - i = 0 by omega]; rfl
theorem dropS_yes {l : List F} {i : Nat} (h : i < l.length) (hr : redB l i = true) : dropS l i = dropS (othersF l i) i := by
  unfold dropS
  rw [others_length h, show l.length - i = (l.length - 1 - i) + 1 by omega]
  show (if i < l.length then _ else _) = _
  rw [if_pos h, if_pos hr]
theorem dropS_no {l : List F} {i : Nat} (h : i < l.length) (hr : redB l i = false) : dropS l i = dropS l (i + 1) := by
  unfold dropS
  rw [show l.length - i = (l.length - (i + 1)) + 1 by omega]
  show (if i < l.length then _ else _) = _
  rw [if_pos h, if_neg (by simp [hr])]
noncomputable def minF (l : List F) : List F := dropS (onceF (trimF (splitF l) (splitF l).length)) 0

end Go.Proofs.YtmlbmdcmedglaaaDoor
