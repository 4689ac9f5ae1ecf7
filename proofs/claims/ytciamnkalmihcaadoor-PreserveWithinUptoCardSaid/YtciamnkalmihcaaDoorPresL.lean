/- Plain laws of projections and of the closure under them. No program. -/
import Derived.Test.YtciamnkalmihcaaDoorMergeL
import Derived.Test.YtciamnkalmihcaaDoorGPlain
namespace Go.Proofs.YtciamnkalmihcaaDoor

theorem bit_subP {a : Nat} (ha : a < 32) {d : S} : sub (bit a) d ↔ d.getLsbD a = true := by
  constructor
  · intro h; exact h a ha (by rw [bit_get a a ha]; simp)
  · intro h i hi hb
    rw [bit_get a i hi, decide_eq_true_iff] at hb
    subst hb; exact h

/-! The projection. -/
noncomputable def minB (fs : List F) (x : S) (a : Nat) : Bool := (memN x 32).all fun b => !impS fs (x &&& ~~~ bit b, bit a)
noncomputable def wX (fs : List F) (s x : S) : List F := ((memN (closeS fs x &&& s &&& ~~~ x) 32).filter (minB fs x)).map fun a => (x, bit a)
noncomputable def wL (fs : List F) (s : S) (ys : List S) : List F := ys.flatMap (wX fs s)
noncomputable def projS (fs : List F) (s : S) (ys : List S) : List F := mergeF (dropS (wL fs s ys) 0)
theorem mem_wL {fs : List F} {s : S} {ys : List S} {f : F} : f ∈ wL fs s ys ↔ f.1 ∈ ys ∧ ∃ a, a < 32 ∧ (closeS fs f.1).getLsbD a = true ∧ s.getLsbD a = true ∧ f.1.getLsbD a = false ∧ minB fs f.1 a = true ∧ f.2 = bit a := by
  unfold wL wX
  rw [List.mem_flatMap]
  constructor
  · rintro ⟨x, hx, hf⟩
    obtain ⟨a, ha, rfl⟩ := List.mem_map.1 hf
    rw [List.mem_filter, mem_memN] at ha
    obtain ⟨⟨h1, h2⟩, h3⟩ := ha
    rw [BitVec.getLsbD_and, BitVec.getLsbD_and, BitVec.getLsbD_not] at h2
    simp [h1] at h2
    exact ⟨hx, a, h1, h2.1.1, h2.1.2, h2.2, h3, rfl⟩
  · rintro ⟨hx, a, h1, h2, h3, h4, h5, h6⟩
    refine ⟨f.1, hx, List.mem_map.2 ⟨a, ?_, by rw [← h6]⟩⟩
    rw [List.mem_filter, mem_memN]
    refine ⟨⟨h1, ?_⟩, h5⟩
    rw [BitVec.getLsbD_and, BitVec.getLsbD_and, BitVec.getLsbD_not, h2, h3, h4]
    simp [h1]
theorem wL_sound {fs : List F} {s : S} {ys : List S} (hy : ∀ x ∈ ys, sub x s) {f : F} (h : f ∈ wL fs s ys) : sub f.1 s ∧ sub f.2 s ∧ sub f.2 (closeS fs f.1) := by
  obtain ⟨h1, a, ha, h2, h3, _, _, h6⟩ := mem_wL.1 h
  rw [h6]
  exact ⟨hy _ h1, (bit_subP ha).2 h3, (bit_subP ha).2 h2⟩
theorem wL_find {fs : List F} {s : S} {ys : List S} (hy : ∀ x, sub x s → x ∈ ys) {a : Nat} (ha : a < 32) (hs : s.getLsbD a = true) : ∀ (n : Nat) (y : S), y.toNat ≤ n → sub y s → (closeS fs y).getLsbD a = true → y.getLsbD a = false → ∃ f ∈ wL fs s ys, sub f.1 y ∧ f.2 = bit a := by
  intro n
  induction n with
  | zero =>
    intro y hn h1 h2 h3
    have e : y = 0#32 := by apply BitVec.eq_of_toNat_eq; simp; omega
    refine ⟨(y, bit a), mem_wL.2 ⟨hy y h1, a, ha, h2, hs, h3, ?_, rfl⟩, sub_refl y, rfl⟩
    unfold minB; rw [e, memN_zero]; rfl
  | succ n ih =>
    intro y hn h1 h2 h3
    cases hm : minB fs y a with
    | true => exact ⟨(y, bit a), mem_wL.2 ⟨hy y h1, a, ha, h2, hs, h3, hm, rfl⟩, sub_refl y, rfl⟩
    | false =>
      unfold minB at hm
      rw [List.all_eq_false] at hm
      obtain ⟨b, hb, hi⟩ := hm
      obtain ⟨hb1, hb2⟩ := mem_memN.1 hb
      simp only [Bool.not_eq_true, Bool.not_eq_false'] at hi
      have hi : sub (bit a) (closeS fs (y &&& ~~~ bit b)) := by unfold impS at hi; simpa using hi
      have hlt : (y &&& ~~~ bit b).toNat < y.toNat := by
        refine sub_toNat_lt (sub_less _ _) fun e => ?_
        have := less_get y b b hb1
        rw [e, hb2] at this; simp at this
      obtain ⟨f, hf, k1, k2⟩ := ih (y &&& ~~~ bit b) (by omega) (sub_trans (sub_less _ _) h1) ((bit_subP ha).1 hi) (by rw [less_get y b a ha, h3]; rfl)
      exact ⟨f, hf, sub_trans k1 (sub_less _ _), k2⟩
/-- What follows within s, follows from the projection. -/
theorem wL_close {fs : List F} {s : S} {ys : List S} (hy : ∀ x, x ∈ ys ↔ sub x s) {y : S} (h : sub y s) : closeS (wL fs s ys) y = closeS fs y &&& s := by
  refine sub_antisymm ?_ ?_
  · refine (closeS_cl _ y).2.2 _ (sub_and (closeS_cl fs y).1 h) fun f hf h1 => ?_
    obtain ⟨_, k2, k3⟩ := wL_sound (fun x hx => (hy x).1 hx) hf
    refine sub_and (sub_trans k3 ?_) k2
    exact (closeS_cl fs f.1).2.2 _ (sub_trans h1 (and_sub_left _ _)) (closeS_cl fs y).2.1
  · intro i hi hb
    rw [BitVec.getLsbD_and, Bool.and_eq_true] at hb
    cases hyi : y.getLsbD i with
    | true => exact (closeS_cl _ y).1 i hi hyi
    | false =>
      obtain ⟨f, hf, k1, k2⟩ := wL_find (fun x hx => (hy x).2 hx) hi hb.2 y.toNat y (Nat.le_refl _) h hb.1 hyi
      have := (closeS_cl (wL fs s ys) y).2.1 f hf (sub_trans k1 (closeS_cl _ y).1)
      rw [k2] at this
      exact (bit_subP hi).1 this
theorem proj_eqv (fs : List F) (s : S) (ys : List S) : Eqv (projS fs s ys) (wL fs s ys) := by
  obtain ⟨h1, _, _⟩ := dropS_spec _ (wL fs s ys) 0 (Nat.le_refl _) (Nat.zero_le _) (by intro j hj; omega)
  exact fun d => (merge_eqv _ d).trans (h1 d)
theorem proj_close {fs : List F} {s : S} {ys : List S} (hy : ∀ x, x ∈ ys ↔ sub x s) {y : S} (h : sub y s) : closeS (projS fs s ys) y = closeS fs y &&& s := by
  rw [(proj_eqv fs s ys).close y]; exact wL_close hy h

/-! The closure under the projections to some parts. -/
noncomputable def moreS (fs : List F) (p z : S) : S := p &&& closeS fs (z &&& p) &&& ~~~ z
noncomputable def addsP (fs : List F) (z p : S) : Bool := moreS fs p z != 0#32
noncomputable def followN (fs : List F) (ps : List S) : Nat → S → S × List Nat
  | 0, z => (z, [])
  | n + 1, z => match ps.findIdx? (addsP fs z) with
    | none => (z, [])
    | some i => ((followN fs ps n (z ||| moreS fs (ps.getD i 0#32) z)).1, i :: (followN fs ps n (z ||| moreS fs (ps.getD i 0#32) z)).2)
theorem adds_grows {fs : List F} {z p : S} (h : addsP fs z p = true) : z.toNat < (z ||| moreS fs p z).toNat := by
  refine sub_toNat_lt (sub_or_left _ _) fun e => ?_
  have hne : moreS fs p z ≠ 0#32 := by unfold addsP at h; simpa using h
  apply hne
  apply BitVec.eq_of_getLsbD_eq
  intro i hi
  have h1 : sub (moreS fs p z) z := by
    have := sub_or_right z (moreS fs p z)
    rwa [← e] at this
  cases hm : (moreS fs p z).getLsbD i with
  | false => simp
  | true =>
    have h2 := h1 i hi hm
    unfold moreS at hm
    rw [BitVec.getLsbD_and, BitVec.getLsbD_not, h2] at hm
    simp [hi] at hm
theorem followN_more (fs : List F) (ps : List S) : ∀ (n m : Nat) (z : S), 2 ^ 32 - z.toNat ≤ n → n ≤ m → followN fs ps m z = followN fs ps n z := by
  intro n
  induction n with
  | zero => intro m z h _; have := z.isLt; omega
  | succ n ih =>
    intro m z h hm
    obtain ⟨m, rfl⟩ : ∃ k, m = k + 1 := ⟨m - 1, by omega⟩
    unfold followN
    cases hf : ps.findIdx? (addsP fs z) with
    | none => rfl
    | some i =>
      obtain ⟨hi, he, _⟩ := List.findIdx?_eq_some_iff_getElem.1 hf
      have := adds_grows he
      have e : ps.getD i 0#32 = ps[i] := by simp [List.getD, hi]
      simp only
      rw [e, ih m _ (by omega) (by omega)]
noncomputable def followS (fs : List F) (ps : List S) (z : S) : S × List Nat := followN fs ps (2 ^ 32 - z.toNat) z
theorem followS_none {fs : List F} {ps : List S} {z : S} (h : ps.findIdx? (addsP fs z) = none) : followS fs ps z = (z, []) := by
  unfold followS
  obtain ⟨n, hn⟩ : ∃ n, 2 ^ 32 - z.toNat = n + 1 := ⟨2 ^ 32 - z.toNat - 1, by have := z.isLt; omega⟩
  rw [hn]; unfold followN; rw [h]
theorem followS_some {fs : List F} {ps : List S} {z : S} {i : Nat} {p : S} (h : ps.findIdx? (addsP fs z) = some i) (hp : ps[i]? = some p) : followS fs ps z = ((followS fs ps (z ||| moreS fs p z)).1, i :: (followS fs ps (z ||| moreS fs p z)).2) := by
  obtain ⟨hi, he, _⟩ := List.findIdx?_eq_some_iff_getElem.1 h
  obtain ⟨_, rfl⟩ := List.getElem?_eq_some_iff.1 hp
  have hg := adds_grows he
  have e : ps.getD i 0#32 = ps[i] := by simp [List.getD, hi]
  unfold followS
  obtain ⟨n, hn⟩ : ∃ n, 2 ^ 32 - z.toNat = n + 1 := ⟨2 ^ 32 - z.toNat - 1, by have := z.isLt; omega⟩
  rw [hn]; conv => lhs; unfold followN
  rw [h]
  simp only
  rw [e, followN_more fs ps _ n _ (Nat.le_refl _) (by omega)]
/-- Closed under the projections. -/
def ClosedP2 (fs : List F) (ps : List S) (d : S) : Prop := ∀ p ∈ ps, sub (closeS fs (d &&& p) &&& p) d
theorem adds_false {fs : List F} {z p : S} : addsP fs z p = false ↔ sub (closeS fs (z &&& p) &&& p) z := by
  unfold addsP
  rw [bne_eq_false_iff_eq]
  constructor
  · intro h i hi hb
    rw [BitVec.getLsbD_and, Bool.and_eq_true] at hb
    cases hz : z.getLsbD i with
    | true => rfl
    | false =>
      have : (moreS fs p z).getLsbD i = true := by
        unfold moreS; rw [BitVec.getLsbD_and, BitVec.getLsbD_and, BitVec.getLsbD_not, hb.1, hb.2, hz]; simp [hi]
      rw [h] at this; simp at this
  · intro h
    apply BitVec.eq_of_getLsbD_eq
    intro i hi
    cases hm : (moreS fs p z).getLsbD i with
    | false => simp
    | true =>
      unfold moreS at hm
      rw [BitVec.getLsbD_and, BitVec.getLsbD_and, BitVec.getLsbD_not, Bool.and_eq_true, Bool.and_eq_true] at hm
      have := h i hi (by rw [BitVec.getLsbD_and, hm.1.1, hm.1.2]; rfl)
      rw [this] at hm; simp at hm
theorem kept_spec {fs : List F} {ps : List S} : ∀ (n : Nat) (z : S), 2 ^ 32 - z.toNat ≤ n → sub z (followS fs ps z).1 ∧ ClosedP2 fs ps (followS fs ps z).1 ∧ ∀ d, sub z d → ClosedP2 fs ps d → sub (followS fs ps z).1 d := by
  intro n
  induction n with
  | zero => intro z h; have := z.isLt; omega
  | succ n ih =>
    intro z h
    cases hf : ps.findIdx? (addsP fs z) with
    | none =>
      rw [followS_none hf]
      refine ⟨sub_refl z, fun p hp => adds_false.1 ?_, fun d hd _ => hd⟩
      rw [List.findIdx?_eq_none_iff] at hf
      exact hf p hp
    | some i =>
      obtain ⟨hi, he, _⟩ := List.findIdx?_eq_some_iff_getElem.1 hf
      rw [followS_some hf (List.getElem?_eq_getElem hi)]
      have hg := adds_grows he
      obtain ⟨k1, k2, k3⟩ := ih (z ||| moreS fs ps[i] z) (by omega)
      refine ⟨sub_trans (sub_or_left _ _) k1, k2, fun d hd hc => k3 d (or_sub hd ?_) hc⟩
      have h1 : sub (closeS fs (z &&& ps[i])) (closeS fs (d &&& ps[i])) := closeS_mono (sub_and (sub_trans (and_sub_left _ _) hd) (and_sub_right _ _))
      have h2 := hc _ (List.getElem_mem hi)
      refine sub_trans ?_ h2
      unfold moreS
      exact sub_and (sub_trans (and_sub_left _ _) (sub_trans (and_sub_right _ _) h1)) (sub_trans (and_sub_left _ _) (and_sub_left _ _))
/-- Kept: the closure under the projections. -/
noncomputable def keptS (fs : List F) (ps : List S) (z : S) : S := (followS fs ps z).1
theorem keptS_spec (fs : List F) (ps : List S) (z : S) : sub z (keptS fs ps z) ∧ ClosedP2 fs ps (keptS fs ps z) ∧ ∀ d, sub z d → ClosedP2 fs ps d → sub (keptS fs ps z) d := kept_spec _ z (Nat.le_refl _)

end Go.Proofs.YtciamnkalmihcaaDoor
