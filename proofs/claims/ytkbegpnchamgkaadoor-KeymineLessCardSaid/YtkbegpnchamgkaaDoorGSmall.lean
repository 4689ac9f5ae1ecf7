/- Texts that belong together, in one file. -/
import Derived.Test.YtkbegpnchamgkaaDoorGWalk
import Derived.Test.YtkbegpnchamgkaaDoorGSort
import Derived.Test.YtkbegpnchamgkaaDoorGPlain
import Derived.Test.YtkbegpnchamgkaaDoorGOrd
/- The walks of the two Minimal. -/
namespace Go.Proofs.YtkbegpnchamgkaaDoor
open Go.RowKit



end Go.Proofs.YtkbegpnchamgkaaDoor


/- The walk of transversal.All: edge by edge. -/
namespace Go.Proofs.YtkbegpnchamgkaaDoor
open Go.RowKit

theorem valid_bits {n : Int} {xs : List S} (h : validS n xs = 0) : 0 ≤ n ∧ n ≤ 16 ∧ xs.length ≤ 200 ∧ ∀ x ∈ xs, ∀ i, i < 32 → n.toNat ≤ i → x.getLsbD i = false := by
  unfold validS at h
  split at h
  · cases h
  · rename_i h1
    split at h
    · cases h
    · rename_i h2
      split at h
      · cases h
      · rename_i h3
        refine ⟨by omega, by omega, by omega, fun x hx i hi hn => ?_⟩
        have h3 : (xs.any fun x => x >>> n.toNat != 0#32) = false := by simpa using h3
        rw [List.any_eq_false] at h3
        have h4 := h3 x hx
        have h4 : x >>> n.toNat = 0#32 := by simpa using h4
        have := congrArg (fun x : S => x.getLsbD (i - n.toNat)) h4
        simp only [BitVec.getLsbD_ushiftRight, BitVec.getLsbD_zero] at this
        rwa [show n.toNat + (i - n.toNat) = i by omega] at this

theorem allL_bound {n : Nat} {xs : List S} (hn : n ≤ 16) (hx : ∀ x ∈ xs, ∀ i, i < 32 → n ≤ i → x.getLsbD i = false) (k : Nat) (hk : k ≤ (redS xs).length) : (allL ((redS xs).take k)).length ≤ 65536 := by
  have ho := allL_ord (redS xs) k hk
  have h := ord_bound (n := 2 ^ n) ho.1 (fun s hs => lt_of_bits (min_within ((ho.2 s).1 hs) (fun x hxm => hx x (((redS_ord xs).2 x).1 (List.mem_of_mem_take hxm)).1)))
  exact Nat.le_trans h (Nat.pow_le_pow_right (by omega) hn)


end Go.Proofs.YtkbegpnchamgkaaDoor


/- The walks of the reference's layer 7: Valid, All, Reduce, Smallest, Witness. -/
namespace Go.Proofs.YtkbegpnchamgkaaDoor
open Go.RowKit


/-- The edges with no other one in them. -/
def least (xs : List S) (e : S) : Bool := !xs.any (fun f => f != e && (f &&& ~~~ e == 0#32))
def leastL (xs : List S) (k : Nat) : List S := (xs.take k).filter (least xs)
theorem leastL_next {xs : List S} {k : Nat} {x : S} (h : xs[k]? = some x) : leastL xs (k + 1) = leastL xs k ++ if least xs x then [x] else [] := by
  unfold leastL; rw [take_next h, List.filter_append]; cases hh : least xs x <;> simp [hh]
theorem leastL_length (xs : List S) (k : Nat) : (leastL xs k).length ≤ xs.length := by
  unfold leastL
  exact Nat.le_trans (List.length_filter_le _ _) (by rw [List.length_take]; exact Nat.min_le_right _ _)
theorem least_iff {xs : List S} {e : S} : least xs e = true ↔ ∀ f ∈ xs, sub f e → f = e := by
  unfold least
  rw [Bool.not_eq_true', List.any_eq_false]
  constructor
  · intro h f hf hs
    have := h f hf
    simp only [Bool.and_eq_true, bne_iff_ne, beq_iff_eq, andNot_zero_iff, not_and] at this
    apply Classical.byContradiction
    intro hne
    exact this hne hs
  · intro h f hf
    simp only [Bool.and_eq_true, bne_iff_ne, beq_iff_eq, andNot_zero_iff, not_and]
    exact fun hne hs => hne (h f hf hs)


end Go.Proofs.YtkbegpnchamgkaaDoor


/- The walks of the reference's All and Smallest, of Witness, and of the program's Smallest. -/
namespace Go.Proofs.YtkbegpnchamgkaaDoor
open Go.RowKit

def candL (xs : List S) (k : Nat) : List S := ((List.range k).map (BitVec.ofNat 32)).filter (minS xs)
theorem candL_next (xs : List S) (k : Nat) : candL xs (k + 1) = candL xs k ++ if minS xs (BitVec.ofNat 32 k) then [BitVec.ofNat 32 k] else [] := by
  unfold candL
  rw [List.range_succ, List.map_append, List.filter_append]
  cases h : minS xs (BitVec.ofNat 32 k) <;> simp [h]
theorem candL_length (xs : List S) (k : Nat) : (candL xs k).length ≤ k := by
  unfold candL
  exact Nat.le_trans (List.length_filter_le _ _) (by simp)
theorem mem_candL {xs : List S} {k : Nat} {s : S} : s ∈ candL xs k ↔ (∃ i, i < k ∧ BitVec.ofNat 32 i = s) ∧ minS xs s = true := by
  unfold candL
  rw [List.mem_filter, List.mem_map]
  simp [List.mem_range]



end Go.Proofs.YtkbegpnchamgkaaDoor


/- The walks of the two Smallest, of Witness, of Dual, of few; All of both in one statement each. -/
namespace Go.Proofs.YtkbegpnchamgkaaDoor
open Go.RowKit

/-- What All returns, whatever the input: with the error there is no set. -/
def resS (n : Int) (xs : List S) : List S := if validS n xs = 0 then allS xs else []

/-- What Smallest returns. -/
def smallS (n : Int) (xs : List S) : S := (resS n xs).headD 0#32
def smallE (n : Int) (xs : List S) : Int := if validS n xs = 0 then (if (resS n xs).isEmpty then 12 else 0) else validS n xs



/-- Witness of the reference. -/
def inL (l : List S) (s : S) : Bool := l.any (· == s)
theorem inL_iff {l : List S} {s : S} : inL l s = true ↔ s ∈ l := by
  unfold inL; rw [List.any_eq_true]; simp
def witS (n : Int) (xs sets : List S) (s : S) : Bool := ((s &&& ~~~ fullN (min n.toNat 32) == 0#32) && minS xs s) != inL sets s

end Go.Proofs.YtkbegpnchamgkaaDoor


/- The walk of transversal.Dual, and of few. -/
namespace Go.Proofs.YtkbegpnchamgkaaDoor
open Go.RowKit

theorem undSet : Tryd.prog.underlying 33 = some (.int .u32) := by kernel_rfl
theorem undBool : Tryd.prog.underlying 4 = some .bool := by kernel_rfl
theorem zeroB (w : World) : (zeroValue 4).run Tryd.prog w = .ok (.bool false) w := by kernel_rfl

/-- What Dual returns: nothing, yes, or a set that is in one of the two lists alone. -/
def DualP (n : Int) (xs sets : List S) (d : S) (ok : Bool) : Prop :=
  if validS n xs ≠ 0 ∨ 20000 < sets.length then d = 0#32 ∧ ok = false
  else (ok = true ∧ d = 0#32 ∧ ∀ s, s ∈ sets ↔ s ∈ allS xs) ∨ (ok = false ∧ ¬ (d ∈ allS xs ↔ d ∈ sets))
def DualE (n : Int) (xs sets : List S) (e : Ending) : Prop := ∃ d ok, e = .returned (.tuple #[enc d, .bool ok]) ∧ DualP n xs sets d ok
theorem inL_next {l : List S} {k : Nat} {x : S} (h : l[k]? = some x) (s : S) : inL (l.take (k + 1)) s = (inL (l.take k) s || (x == s)) := by
  unfold inL; rw [take_next h, List.any_append]; simp
def rem (sets l : List S) (s : S) : Bool := inL sets s && !inL l s



end Go.Proofs.YtkbegpnchamgkaaDoor


/- The walk of awake: the chapter's examples hold. -/
namespace Go.Proofs.YtkbegpnchamgkaaDoor
open Go.RowKit

/-- A list of sets that the text writes out. -/
theorem rd_lit (w : World) (l : List S) (t : TypeId) (h : l.length ≤ 1000) : RdE enc (w.alloc (.cells (l.map enc).toArray t)) (.slice (some ⟨w.heap.size, 0, none⟩) l.length l.length) l := by
  have := World.ownsRow_lit (size := 1) (e := t) (base := w.heap.size) w (l.map enc).toArray l.length (Nat.le_refl _) (by unfold maxLen; omega) (by simp)
  exact RdE.of_owns (by simpa using this) (by omega)

/-- What All gives can be checked set by set: n attributes, 2 ^ n sets. -/
theorem allS_check (xs ys : List S) (n N : Nat) (hN : 2 ^ n = N) (hv : ∀ x ∈ xs, ∀ i, i < 32 → n ≤ i → x.getLsbD i = false) (hy : ys.Pairwise bef)
    (hc : ∀ k, k < N → (minS xs (BitVec.ofNat 32 k) = true ↔ BitVec.ofNat 32 k ∈ ys)) (hb : ∀ y ∈ ys, y.toNat < N) : allS xs = ys := by
  subst hN
  refine (allS_ord xs).uniq (ys := ys) (q := fun s => s ∈ ys) ⟨hy, fun _ => Iff.rfl⟩ fun s => ?_
  have hs : BitVec.ofNat 32 s.toNat = s := by apply BitVec.eq_of_toNat_eq; simp
  constructor
  · intro h
    have := lt_of_bits (min_within h hv)
    have h2 := (hc s.toNat this).1 (by rw [hs]; exact h)
    rwa [hs] at h2
  · intro h
    have h2 := (hc s.toNat (hb s h)).2 (by rw [hs]; exact h)
    rwa [hs] at h2
theorem isMin_least (xs : List S) (s : S) : isMin xs s ↔ s ∈ xs.filter (least xs) := by
  unfold isMin; rw [List.mem_filter, least_iff]
theorem redS_check (xs ys : List S) (hy : ys.Pairwise bef) (hc : ∀ s, s ∈ xs.filter (least xs) ↔ s ∈ ys) : redS xs = ys :=
  (redS_ord xs).uniq (ys := ys) (q := fun s => s ∈ ys) ⟨hy, fun _ => Iff.rfl⟩ fun s => (isMin_least xs s).trans (hc s)

theorem iv_five : (iv 5#32 == 5) = true := by decide
theorem iv_ten : (iv 10#32 == 10) = true := by decide
theorem ex_valid : validS 4 [3#32, 6#32, 12#32] = 0 := by decide +kernel
theorem ex_all : allS [3#32, 6#32, 12#32] = [5#32, 6#32, 10#32] := by
  have h : ∀ k, k < 16 → (minS [3#32, 6#32, 12#32] (BitVec.ofNat 32 k) = true ↔ BitVec.ofNat 32 k ∈ [5#32, 6#32, 10#32]) := by decide +kernel
  have hv : ∀ x ∈ [3#32, 6#32, 12#32], ∀ i, i < 32 → 4 ≤ i → x.getLsbD i = false := fun x hx i hi h4 => (valid_bits ex_valid).2.2.2 x hx i hi h4
  have hp : [5#32, 6#32, 10#32].Pairwise bef := by decide +kernel
  have hb : ∀ y ∈ [5#32, 6#32, 10#32], y.toNat < 16 := by
    intro y hy
    simp only [List.mem_cons, List.not_mem_nil, or_false] at hy
    rcases hy with rfl | rfl | rfl <;> decide
  exact allS_check [3#32, 6#32, 12#32] [5#32, 6#32, 10#32] 4 16 (by decide) hv hp h hb
theorem ex_red : redS [7#32, 3#32, 12#32, 3#32] = [3#32, 12#32] := by
  refine redS_check _ _ (by decide +kernel) fun s => ?_
  have : [7#32, 3#32, 12#32, 3#32].filter (least [7#32, 3#32, 12#32, 3#32]) = [3#32, 12#32, 3#32] := by decide +kernel
  rw [this]
  simp only [List.mem_cons, List.not_mem_nil, or_false]
  constructor
  · rintro (h | h | h) <;> simp [h]
  · rintro (h | h) <;> simp [h]
theorem ex_res : resS 4 [3#32, 6#32, 12#32] = [5#32, 6#32, 10#32] := by unfold resS; rw [if_pos ex_valid, ex_all]
theorem ex_small : smallS 4 [3#32, 6#32, 12#32] = 5#32 := by unfold smallS; rw [ex_res]; rfl
theorem ex_smallE : smallE 4 [3#32, 6#32, 12#32] = 0 := by unfold smallE; rw [if_pos ex_valid, ex_res]; rfl
theorem ex_dual {d : S} {ok : Bool} (h : DualP 4 [3#32, 6#32, 12#32] [6#32, 5#32] d ok) : d = 10#32 ∧ ok = false := by
  unfold DualP at h
  rw [ex_valid, ex_all] at h
  rw [if_neg (by simp)] at h
  rcases h with ⟨_, _, h⟩ | ⟨rfl, h⟩
  · exact absurd ((h 10#32).2 (by decide)) (by decide)
  · refine ⟨?_, rfl⟩
    apply Classical.byContradiction
    intro hd
    apply h
    simp only [List.mem_cons, List.not_mem_nil, or_false]
    constructor
    · rintro (h | h | h)
      · exact .inr h
      · exact .inl h
      · exact absurd h hd
    · rintro (h | h)
      · exact .inr (.inl h)
      · exact .inl h



end Go.Proofs.YtkbegpnchamgkaaDoor

