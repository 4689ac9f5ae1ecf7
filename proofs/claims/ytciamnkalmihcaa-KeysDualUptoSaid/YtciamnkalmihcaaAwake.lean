/- The walk of awake: the chapter's examples hold. -/
import Derived.Test.YtciamnkalmihcaaDual
namespace Go.Proofs.Ytciamnkalmihcaa
open Go.RowKit

/-- A list of sets that the text writes out. -/
theorem rd_lit (w : World) (l : List S) (t : TypeId) (h : l.length ≤ 1000) : RdE enc (w.alloc (.cells (l.map enc).toArray t)) (.slice (some ⟨w.heap.size, 0, none⟩) l.length l.length) l := by
  have := World.ownsRow_lit (size := 1) (e := t) (base := w.heap.size) w (l.map enc).toArray l.length (Nat.le_refl _) (by unfold maxLen; omega) (by simp)
  exact RdE.of_owns (by simpa using this) (by omega)

/-- What All gives can be checked set by set: n attributes, 2 ^ n sets. -/
theorem allS_check (xs ys : List S) (n N : Nat) (hN : 2 ^ n = N) (hv : ∀ x ∈ xs, ∀ i, i < 32 → n ≤ i → x.getLsbD i = false) (hy : ys.Pairwise bef)
    (hc : ∀ k, k < N → (minS xs (BitVec.ofNat 32 k) = true ↔ BitVec.ofNat 32 k ∈ ys)) (hb : ∀ y ∈ ys, y.toNat < N) : allS xs = ys := by
  subst hN
  refine (allS_ord xs).uniq (ys := ys) (q := fun s => s ∈ ys) ⟨hy, fun _ => Iff.rfl⟩ fun s => ?_
  have hs : BitVec.ofNat 32 s.toNat = s := by apply BitVec.eq_of_toNat_eq; simp
  constructor
  · intro h
    have := lt_of_bits (min_within h hv)
    have h2 := (hc s.toNat this).1 (by rw [hs]; exact h)
    rwa [hs] at h2
  · intro h
    have h2 := (hc s.toNat (hb s h)).2 (by rw [hs]; exact h)
    rwa [hs] at h2
theorem isMin_least (xs : List S) (s : S) : isMin xs s ↔ s ∈ xs.filter (least xs) := by
  unfold isMin; rw [List.mem_filter, least_iff]
theorem redS_check (xs ys : List S) (hy : ys.Pairwise bef) (hc : ∀ s, s ∈ xs.filter (least xs) ↔ s ∈ ys) : redS xs = ys :=
  (redS_ord xs).uniq (ys := ys) (q := fun s => s ∈ ys) ⟨hy, fun _ => Iff.rfl⟩ fun s => (isMin_least xs s).trans (hc s)

theorem iv_five : (iv 5#32 == 5) = true := by decide
theorem iv_ten : (iv 10#32 == 10) = true := by decide
theorem ex_valid : validS 4 [3#32, 6#32, 12#32] = 0 := by decide +kernel
theorem ex_all : allS [3#32, 6#32, 12#32] = [5#32, 6#32, 10#32] := by
  have h : ∀ k, k < 16 → (minS [3#32, 6#32, 12#32] (BitVec.ofNat 32 k) = true ↔ BitVec.ofNat 32 k ∈ [5#32, 6#32, 10#32]) := by decide +kernel
  have hv : ∀ x ∈ [3#32, 6#32, 12#32], ∀ i, i < 32 → 4 ≤ i → x.getLsbD i = false := fun x hx i hi h4 => (valid_bits ex_valid).2.2.2 x hx i hi h4
  have hp : [5#32, 6#32, 10#32].Pairwise bef := by decide +kernel
  have hb : ∀ y ∈ [5#32, 6#32, 10#32], y.toNat < 16 := by
    intro y hy
    simp only [List.mem_cons, List.not_mem_nil, or_false] at hy
    rcases hy with rfl | rfl | rfl <;> decide
  exact allS_check [3#32, 6#32, 12#32] [5#32, 6#32, 10#32] 4 16 (by decide) hv hp h hb
theorem ex_red : redS [7#32, 3#32, 12#32, 3#32] = [3#32, 12#32] := by
  refine redS_check _ _ (by decide +kernel) fun s => ?_
  have : [7#32, 3#32, 12#32, 3#32].filter (least [7#32, 3#32, 12#32, 3#32]) = [3#32, 12#32, 3#32] := by decide +kernel
  rw [this]
  simp only [List.mem_cons, List.not_mem_nil, or_false]
  constructor
  · rintro (h | h | h) <;> simp [h]
  · rintro (h | h) <;> simp [h]
theorem ex_res : resS 4 [3#32, 6#32, 12#32] = [5#32, 6#32, 10#32] := by unfold resS; rw [if_pos ex_valid, ex_all]
theorem ex_small : smallS 4 [3#32, 6#32, 12#32] = 5#32 := by unfold smallS; rw [ex_res]; rfl
theorem ex_smallE : smallE 4 [3#32, 6#32, 12#32] = 0 := by unfold smallE; rw [if_pos ex_valid, ex_res]; rfl
theorem ex_dual {d : S} {ok : Bool} (h : DualP 4 [3#32, 6#32, 12#32] [6#32, 5#32] d ok) : d = 10#32 ∧ ok = false := by
  unfold DualP at h
  rw [ex_valid, ex_all] at h
  rw [if_neg (by simp)] at h
  rcases h with ⟨_, _, h⟩ | ⟨rfl, h⟩
  · exact absurd ((h 10#32).2 (by decide)) (by decide)
  · refine ⟨?_, rfl⟩
    apply Classical.byContradiction
    intro hd
    apply h
    simp only [List.mem_cons, List.not_mem_nil, or_false]
    constructor
    · rintro (h | h | h)
      · exact .inr h
      · exact .inl h
      · exact absurd h hd
    · rintro (h | h)
      · exact .inr (.inl h)
      · exact .inl h

/-- Same, of a list that is read and one that the text writes out. -/
theorem same_lit (l : List S) (v : Value) (W : World) (o : Obj) (ho : o = .cells (l.map enc).toArray 24) (m : Nat) (hm : m = l.length) (hl : l.length ≤ 1000) (h : RdE enc W v l) :
    Calls Try.prog 29 #[v, .slice (some ⟨W.heap.size, 0, none⟩) m m] (W.alloc o) fun e w' => e = .returned (.bool true) ∧ Below W.heap.size W w' := by
  subst ho hm
  refine (same_any l l v _ _ (h.below (below_alloc _ _)) (rd_lit W l _ hl)).mono fun e w' ⟨he, q, hq⟩ => ⟨by rw [he]; simp, ?_⟩
  subst hq
  exact (below_alloc _ _).trans (below_drewN _ _ _)


end Go.Proofs.Ytciamnkalmihcaa
