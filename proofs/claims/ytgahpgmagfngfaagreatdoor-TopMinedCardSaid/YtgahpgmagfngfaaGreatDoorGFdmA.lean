/- Texts that belong together, in one file. -/
import Derived.Test.YtgahpgmagfngfaaGreatDoorGPtA
import Derived.Test.YtgahpgmagfngfaaGreatDoorGKm3
import Derived.Test.YtgahpgmagfngfaaGreatDoorGPtB
import Derived.Test.YtgahpgmagfngfaaGreatDoorGMid
import Derived.Maps.AppendAt
import Derived.Laws.AppendOwnNone
/- Plain laws of mined dependencies: keys, ranks, products of partitions, minimal left sides. No program of its own. -/
namespace Go.Proofs.YtgahpgmagfngfaaGreatDoor
open Go.RowKit
set_option linter.unusedVariables false

/-- The keys of the rows on a set. -/
def keyOn (rs : List Row3) (s : S) : List KS := rs.map fun r => mkKS (kyB r.2.2 (memN s 32))
theorem keyOn_length (rs : List Row3) (s : S) : (keyOn rs s).length = rs.length := by unfold keyOn; simp
theorem keyOn_at {rs : List Row3} {i : Nat} {r : Row3} (h : rs[i]? = some r) (s : S) : (keyOn rs s)[i]? = some (mkKS (kyB r.2.2 (memN s 32))) := by unfold keyOn; rw [List.getElem?_map, h]; rfl
theorem keyOn_get {rs : List Row3} {i : Nat} {s : S} {k : KS} (h : (keyOn rs s)[i]? = some k) : ∃ r, rs[i]? = some r ∧ k = mkKS (kyB r.2.2 (memN s 32)) := by
  unfold keyOn at h
  rw [List.getElem?_map, Option.map_eq_some_iff] at h
  obtain ⟨r, h1, h2⟩ := h
  exact ⟨r, h1, h2.symm⟩
structure FineR (m : Nat) (rs : List Row3) : Prop where
  wid : Wide m rs
  le : m ≤ 32
  ok : ∀ r ∈ rs, ∀ x ∈ r.2.2, okV x
theorem key_iff {m : Nat} {rs : List Row3} (h : FineR m rs) {r q : Row3} (hr : r ∈ rs) (hq : q ∈ rs) {s : S} (hs : sub s (fullN m)) :
    mkKS (kyB r.2.2 (memN s 32)) = mkKS (kyB q.2.2 (memN s 32)) ↔ sub s (rowsS r.2.2 q.2.2 m) := by
  have hb := sub_full_bits h.le hs
  have lr := h.wid r hr
  have lq := h.wid q hq
  have key : ∀ x ∈ rs, kyB x.2.2 (memN s 32) = keysB (valTo x.2.2 s m) := by
    intro x hx
    have lx := h.wid x hx
    have := kyB_val (xs := x.2.2) (s := s) (by rw [lx]; exact hb) (by have := h.le; omega)
    rw [lx] at this; exact this
  have len : ∀ x ∈ rs, (kyB x.2.2 (memN s 32)).length ≤ maxLen := by
    intro x hx
    have lx := h.wid x hx
    have h1 := kyB_length (xs := x.2.2) (ms := memN s 32) (fun y hy => (h.ok x hx y hy).1) (mem_lt (by rw [lx]; exact hb)) (memN_length s 32)
    exact Nat.le_trans h1 (by decide)
  rw [← agB_sub lr lq h.le hs, agB_eq lr]
  constructor
  · intro e
    have e2 := mkKS_inj (len r hr) (len q hq) e
    rw [key r hr, key q hq] at e2
    exact keysB_inj (fun x hx => h.ok r hr x (valTo_mem (by rw [lr]; exact Nat.le_refl _) hx)) (fun x hx => h.ok q hq x (valTo_mem (by rw [lq]; exact Nat.le_refl _) hx)) (valTo_same _ _ _ _) e2
  · intro e
    rw [key r hr, key q hq, e]
theorem sub_or {a b c : S} : sub (a ||| b) c ↔ sub a c ∧ sub b c := by
  constructor
  · intro h
    exact ⟨sub_trans (sub_or_left a b) h, sub_trans (sub_or_right a b) h⟩
  · rintro ⟨h, k⟩ i hi hb
    rw [BitVec.getLsbD_or, Bool.or_eq_true] at hb
    exact hb.elim (h i hi) (k i hi)
/-- The rank of a set. -/
def rankN (rs : List Row3) (s : S) : Int := rankP rs.length (clsK (keyOn rs s))
theorem rankN_ded (rs : List Row3) (s : S) : rankN rs s = ((dedK (keyOn rs s)).length : Int) := by
  unfold rankN
  rw [← rank_ded, keyOn_length]
/-- A set determines an attribute. -/
def detB (rs : List Row3) (a : Nat) (s : S) : Bool := satB rs (s, bit a)
theorem det_iff {m : Nat} {rs : List Row3} (h : FineR m rs) {a : Nat} (ha : a < m) {s : S} (hs : sub s (fullN m)) :
    detB rs a s = true ↔ ∀ r ∈ rs, ∀ q ∈ rs, sub s (rowsS r.2.2 q.2.2 m) → sub (bit a) (rowsS r.2.2 q.2.2 m) := by
  unfold detB satB
  rw [List.all_eq_true]
  refine forall_congr' fun r => ?_
  refine forall_congr' fun hr => ?_
  rw [List.all_eq_true]
  refine forall_congr' fun q => ?_
  refine forall_congr' fun hq => ?_
  unfold satR
  have e1 := agB_sub (h.wid r hr) (h.wid q hq) h.le hs
  have e2 := agB_sub (h.wid r hr) (h.wid q hq) h.le (bit_full ha h.le)
  rw [Bool.or_eq_true, Bool.not_eq_true', e2]
  cases hb : agB r.2.2 q.2.2 s with
  | false => simp only [true_or, true_iff]; intro hx; rw [e1.2 hx] at hb; cases hb
  | true => simp only [Bool.true_eq_false, false_or]; exact ⟨fun x _ => x, fun x => x (e1.1 hb)⟩
theorem rank_iff {m : Nat} {rs : List Row3} (h : FineR m rs) {a : Nat} (ha : a < m) {s : S} (hs : sub s (fullN m)) :
    decide (rankN rs s = rankN rs (s ||| bit a)) = detB rs a s := by
  have hs2 : sub (s ||| bit a) (fullN m) := sub_or.2 ⟨hs, bit_full ha h.le⟩
  rw [Bool.eq_iff_iff, decide_eq_true_iff, det_iff h ha hs, rankN_ded, rankN_ded, Int.natCast_inj]
  refine (ded_same (ks := keyOn rs s) (ks' := keyOn rs (s ||| bit a)) (by rw [keyOn_length, keyOn_length]) ?_).trans ?_
  · intro i j x y x' y' h1 h2 h3 h4 e
    obtain ⟨r, hr, rfl⟩ := keyOn_get h1
    obtain ⟨q, hq, rfl⟩ := keyOn_get h2
    rw [keyOn_at hr] at h3
    rw [keyOn_at hq] at h4
    cases h3; cases h4
    rw [key_iff h (List.mem_of_getElem? hr) (List.mem_of_getElem? hq) hs2] at e
    rw [key_iff h (List.mem_of_getElem? hr) (List.mem_of_getElem? hq) hs]
    exact (sub_or.1 e).1
  · constructor
    · intro hk r hr q hq hx
      obtain ⟨i, hi⟩ := List.mem_iff_getElem?.1 hr
      obtain ⟨j, hj⟩ := List.mem_iff_getElem?.1 hq
      have := hk i j _ _ _ _ (keyOn_at hi s) (keyOn_at hj s) (keyOn_at hi _) (keyOn_at hj _) ((key_iff h hr hq hs).2 hx)
      rw [key_iff h hr hq hs2] at this
      exact (sub_or.1 this).2
    · intro hk i j x y x' y' h1 h2 h3 h4 e
      obtain ⟨r, hr, rfl⟩ := keyOn_get h1
      obtain ⟨q, hq, rfl⟩ := keyOn_get h2
      rw [keyOn_at hr] at h3
      rw [keyOn_at hq] at h4
      cases h3; cases h4
      rw [key_iff h (List.mem_of_getElem? hr) (List.mem_of_getElem? hq) hs] at e
      rw [key_iff h (List.mem_of_getElem? hr) (List.mem_of_getElem? hq) hs2]
      exact sub_or.2 ⟨e, hk _ (List.mem_of_getElem? hr) _ (List.mem_of_getElem? hq) e⟩
/-! Pairs of labels as keys. -/
def mkPK (x y : Int) : PK := if h : inI x ∧ inI y then ⟨(x, y), h⟩ else ⟨(0, 0), by unfold inI; omega, by unfold inI; omega⟩
theorem mkPK_val {x y : Int} (h : inI x ∧ inI y) : (mkPK x y).1 = (x, y) := by unfold mkPK; rw [dif_pos h]
def pairL (n : Nat) (A B : List (List Int)) : List PK := (List.range n).map fun i => mkPK (labP A i) (labP B i)
theorem pairL_length (n : Nat) (A B : List (List Int)) : (pairL n A B).length = n := by unfold pairL; simp
theorem lab_in {n : Nat} {A : List (List Int)} (h : okQ n A) {i : Nat} (hi : i < n) : inI (labP A i) := by
  have := lab_bound h i hi
  unfold inI; omega
theorem mkPK_iff {x y x' y' : Int} (h : inI x ∧ inI y) (h' : inI x' ∧ inI y') : mkPK x y = mkPK x' y' ↔ x = x' ∧ y = y' := by
  constructor
  · intro e
    have := congrArg Subtype.val e
    rw [mkPK_val h, mkPK_val h'] at this
    exact Prod.mk.inj this
  · rintro ⟨rfl, rfl⟩; rfl
theorem prod_keys {m : Nat} {rs : List Row3} (h : FineR m rs) (hl : rs.length ≤ 1000) {u v : S} (hu : sub u (fullN m)) (hv : sub v (fullN m)) :
    clsK (pairL rs.length (clsK (keyOn rs u)) (clsK (keyOn rs v))) = clsK (keyOn rs (u ||| v)) := by
  have ou : okQ rs.length (clsK (keyOn rs u)) := by have := cls_okQ (ks := keyOn rs u) (by rw [keyOn_length]; exact hl); rwa [keyOn_length] at this
  have ov : okQ rs.length (clsK (keyOn rs v)) := by have := cls_okQ (ks := keyOn rs v) (by rw [keyOn_length]; exact hl); rwa [keyOn_length] at this
  refine (cls_congr (ks := keyOn rs (u ||| v)) (ks' := pairL _ _ _) (by rw [pairL_length, keyOn_length]) ?_).1
  intro i j x y x' y' h1 h2 h3 h4
  obtain ⟨r, hr, rfl⟩ := keyOn_get h1
  obtain ⟨q, hq, rfl⟩ := keyOn_get h2
  have hi := (List.getElem?_eq_some_iff.1 hr).1
  have hj := (List.getElem?_eq_some_iff.1 hq).1
  unfold pairL at h3 h4
  rw [List.getElem?_map, List.getElem?_range hi, Option.map_some, Option.some.injEq] at h3
  rw [List.getElem?_map, List.getElem?_range hj, Option.map_some, Option.some.injEq] at h4
  subst h3 h4
  rw [key_iff h (List.mem_of_getElem? hr) (List.mem_of_getElem? hq) (sub_or.2 ⟨hu, hv⟩), sub_or, mkPK_iff ⟨lab_in ou hi, lab_in ov hi⟩ ⟨lab_in ou hj, lab_in ov hj⟩,
    lab_iff _ (keyOn_at hr u) (keyOn_at hq u), lab_iff _ (keyOn_at hr v) (keyOn_at hq v), key_iff h (List.mem_of_getElem? hr) (List.mem_of_getElem? hq) hu, key_iff h (List.mem_of_getElem? hr) (List.mem_of_getElem? hq) hv]
/-! Selection, one size after the other. -/
def selStep (Q : S → Bool) (out : List S) (s : S) : List S := if Q s && !out.any (fun x => x &&& ~~~ s == 0#32) then out ++ [s] else out
def selL (Q : S → Bool) (l : List S) : List S := l.foldl (selStep Q) []
theorem selL_red (Q : S → Bool) : ∀ (l out : List S), l.foldl (selStep Q) out = (l.filter Q).foldl redStep out := by
  intro l
  induction l with
  | nil => intro out; rfl
  | cons x l ih =>
    intro out
    rw [List.foldl_cons, List.filter_cons]
    have e : ∀ out : List S, (out.any fun f => f &&& ~~~ x == 0#32) = out.any fun f => f &&& x == f := by
      intro out
      congr 1
      funext f
      rw [Bool.eq_iff_iff, beq_iff_eq, beq_iff_eq, andNot_zero_iff, and_self_iff]
    cases hu : Q x with
    | false =>
      rw [if_neg (by simp), ← ih]
      congr 1
      unfold selStep
      rw [hu]; simp
    | true =>
      rw [if_pos rfl, List.foldl_cons, ← ih]
      congr 1
      unfold selStep redStep
      rw [hu, e]
      cases (out.any fun f => f &&& x == f) <;> simp
theorem selL_min {Q : S → Bool} {l : List S} (h : l.Pairwise bef) : selL Q l = keepS downR (l.filter Q) := by
  have h1 : selL Q l = redL (l.filter Q) := selL_red Q l []
  have h2 := redL_ord (l := l.filter Q) ((h.filter Q).imp fun h => bef_asymm h) _ (Nat.le_refl _)
  rw [List.take_length] at h2
  rw [h1, h2.uniq (min_ord (l.filter Q)) fun _ => Iff.rfl]
def lstB (p : S → Bool) : List S := ordS (((List.range 4294967296).map (BitVec.ofNat 32)).filter p)
theorem lstB_ord (p : S → Bool) : IsOrd (lstB p) (fun s => p s = true) := by
  unfold lstB
  refine (ordS_ord _).congr fun x => ?_
  rw [List.mem_filter]
  exact ⟨fun k => k.2, fun k => ⟨List.mem_map.2 ⟨x.toNat, List.mem_range.2 x.isLt, by simp⟩, k⟩⟩
attribute [irreducible] lstB
theorem mem_lstB {p : S → Bool} {s : S} : s ∈ lstB p ↔ p s = true := (lstB_ord p).2 s
/-- The minimal left sides of an attribute. -/
def forB (m : Nat) (rs : List Row3) (a : Nat) (s : S) : Bool := decide (s &&& ~~~ (fullN m &&& ~~~ bit a) = 0#32) && detB rs a s
noncomputable def forL (m : Nat) (rs : List Row3) (a : Nat) : List S := keepS downR (lstB (forB m rs a))
theorem sub_others {m a : Nat} (ha : a < 32) {s : S} : s &&& ~~~ (fullN m &&& ~~~ bit a) = 0#32 ↔ sub s (fullN m) ∧ s.getLsbD a = false := by
  rw [andNot_zero_iff]
  constructor
  · intro h
    refine ⟨fun i hi hb => ?_, ?_⟩
    · have := h i hi hb
      rw [BitVec.getLsbD_and, Bool.and_eq_true] at this; exact this.1
    · cases hb : s.getLsbD a with
      | false => rfl
      | true =>
        have := h a ha hb
        rw [BitVec.getLsbD_and, Bool.and_eq_true, BitVec.getLsbD_not, bit_get _ _ ha] at this
        simp at this
  · rintro ⟨h1, h2⟩ i hi hb
    rw [BitVec.getLsbD_and, Bool.and_eq_true, BitVec.getLsbD_not, bit_get _ _ hi]
    refine ⟨h1 i hi hb, ?_⟩
    have : i ≠ a := fun e => by subst e; rw [h2] at hb; cases hb
    simp [hi, this]
theorem forB_iff {m a : Nat} {rs : List Row3} (ha : a < 32) {s : S} : forB m rs a s = true ↔ sub s (fullN m) ∧ s.getLsbD a = false ∧ detB rs a s = true := by
  unfold forB
  rw [Bool.and_eq_true, decide_eq_true_iff, sub_others ha, and_assoc]
theorem forL_ord (m : Nat) (rs : List Row3) (a : Nat) : IsOrd (forL m rs a) (isMin (lstB (forB m rs a))) := min_ord _
theorem mem_forL {m a : Nat} {rs : List Row3} (ha : a < 32) {s : S} : s ∈ forL m rs a ↔ (sub s (fullN m) ∧ s.getLsbD a = false ∧ detB rs a s = true) ∧ ∀ t, sub t (fullN m) → t.getLsbD a = false → detB rs a t = true → sub t s → t = s := by
  rw [(forL_ord m rs a).2 s]
  unfold isMin
  rw [mem_lstB, forB_iff ha]
  refine and_congr Iff.rfl ?_
  constructor
  · intro h t h1 h2 h3 h4
    exact h t (mem_lstB.2 ((forB_iff ha).2 ⟨h1, h2, h3⟩)) h4
  · intro h t ht hs
    obtain ⟨h1, h2, h3⟩ := (forB_iff ha).1 (mem_lstB.1 ht)
    exact h t h1 h2 h3 hs
/-- .. of at most some size. -/
noncomputable def forK (m : Nat) (rs : List Row3) (a K : Nat) : List S := (forL m rs a).filter fun s => decide (pop s ≤ K)
theorem selL_for {m a K : Nat} {rs : List Row3} (ha : a < 32) {Q : S → Bool} {l : List S} (h : IsOrd l (fun s => sub s (fullN m) ∧ pop s ≤ K)) (hQ : ∀ s, sub s (fullN m) → Q s = (!s.getLsbD a && detB rs a s)) : selL Q l = forK m rs a K := by
  rw [selL_min h.1]
  refine (min_ord (l.filter Q)).uniq ((forL_ord m rs a).filter _) fun s => ?_
  unfold isMin
  simp only [List.mem_filter, h.2, mem_lstB, decide_eq_true_iff]
  have key : ∀ t, ((sub t (fullN m) ∧ pop t ≤ K) ∧ Q t = true) ↔ forB m rs a t = true ∧ pop t ≤ K := by
    intro t
    rw [forB_iff ha]
    constructor
    · rintro ⟨⟨h1, h2⟩, h3⟩
      rw [hQ t h1, Bool.and_eq_true, Bool.not_eq_true'] at h3
      exact ⟨⟨h1, h3.1, h3.2⟩, h2⟩
    · rintro ⟨⟨h1, h2, h3⟩, h4⟩
      exact ⟨⟨h1, h4⟩, by rw [hQ t h1, h2, h3]; rfl⟩
  rw [key]
  constructor
  · rintro ⟨⟨h1, h2⟩, h3⟩
    exact ⟨⟨h1, fun f hf hs => h3 f ((key f).2 ⟨hf, Nat.le_trans (sub_pop hs) h2⟩) hs⟩, h2⟩
  · rintro ⟨⟨h1, h2⟩, h3⟩
    exact ⟨⟨h1, h3⟩, fun f hf hs => h2 f ((key f).1 hf).1 hs⟩
/-- All the sets of a size. -/
noncomputable def levL (m k : Nat) : List S := lstB fun s => decide (s &&& ~~~ fullN m = 0#32) && decide (pop s = k)
theorem levL_ord (m k : Nat) : IsOrd (levL m k) (fun s => sub s (fullN m) ∧ pop s = k) := (lstB_ord _).congr fun s => by
  rw [Bool.and_eq_true, decide_eq_true_iff, decide_eq_true_iff, andNot_zero_iff]
noncomputable def levsL (m : Nat) : Nat → List S
  | 0 => []
  | k + 1 => levsL m k ++ levL m k
theorem levsL_ord (m : Nat) : ∀ k, IsOrd (levsL m k) (fun s => sub s (fullN m) ∧ pop s < k) := by
  intro k
  induction k with
  | zero => exact ⟨List.Pairwise.nil, fun s => by simp [levsL]⟩
  | succ k ih =>
    refine ⟨?_, fun s => ?_⟩
    · show (levsL m k ++ levL m k).Pairwise bef
      rw [List.pairwise_append]
      refine ⟨ih.1, (levL_ord m k).1, fun a ha b hb => ?_⟩
      have h1 := ((ih.2 a).1 ha).2
      have h2 := (((levL_ord m k).2 b).1 hb).2
      exact (bef_iff a b).2 (.inl (by omega))
    · show s ∈ levsL m k ++ levL m k ↔ _
      rw [List.mem_append, ih.2, (levL_ord m k).2]
      constructor
      · rintro (⟨h1, h2⟩ | ⟨h1, h2⟩)
        · exact ⟨h1, by omega⟩
        · exact ⟨h1, by omega⟩
      · rintro ⟨h1, h2⟩
        by_cases h : pop s = k
        · exact .inr ⟨h1, h⟩
        · exact .inl ⟨h1, by omega⟩

end Go.Proofs.YtgahpgmagfngfaaGreatDoor


/- The walks of fdmine.limits, attribute, partition.within, Of. -/
namespace Go.Proofs.YtgahpgmagfngfaaGreatDoor
open Go.RowKit
set_option linter.unusedVariables false

def fE (t : T3) : Int := if tabE t ≠ 0 then tabE t else if 10 < t.2.1.length ∨ 200 < t.2.2.length then 3 else 0
theorem tabE_len {t : T3} (h : tabE t = 0) : t.2.1.length ≤ 16 ∧ t.2.2.length ≤ 1000 := by
  unfold tabE at h
  split at h
  · cases h
  · split at h
    · cases h
    · omega
theorem fE_ok {t : T3} (h : fE t = 0) : tabE t = 0 ∧ t.2.1.length ≤ 10 ∧ t.2.2.length ≤ 200 := by
  unfold fE at h
  by_cases h0 : tabE t = 0
  · rw [if_neg (by simpa using h0)] at h
    by_cases h1 : 10 < t.2.1.length ∨ 200 < t.2.2.length
    · rw [if_pos h1] at h; cases h
    · exact ⟨h0, by omega, by omega⟩
  · rw [if_pos h0] at h; exact absurd h h0
set_option maxHeartbeats 1600000 in
set_option maxRecDepth 100000 in
theorem flimits_any (t : T3) (av rv : Value) (w : World) (ht : RdT w av rv t) :
    Calls Tryz.prog 62 #[.agg #[.string t.1, av, rv]] w fun e w' => e = .returned (.int .i64 (fE t)) ∧ Below w.heap.size w w' := by
  have hb0 := below_alloc w (.cells #[.string t.1, av, rv] 48)
  have C3 := hid (fun W h => cells3 (w := w) (a := .string t.1) (b := av) (c := rv) (t := 48) W h)
  have T0 := hid (ht.below hb0)
  obtain ⟨w0, hw0⟩ : ∃ w0 : World, w.alloc (.cells #[.string t.1, av, rv] 48) = w0 := ⟨_, rfl⟩
  rw [hw0] at hb0 C3 T0
  have B0 := hid hb0
  have W0 := hid hw0
  have hsz0 := hb0.size
  clear hb0 hw0
  have TV := hid (fun (W : World) (h : Below w0.heap.size w0 W) => tvalid_any t av rv W (T0.out.below h))
  obtain ⟨t00, t01, t02⟩ := C3.out _ (Below.refl _ _)
  have KE := hid (show fE t = if tabE t ≠ 0 then tabE t else if 10 < t.2.1.length ∨ 200 < t.2.2.length then 3 else 0 from rfl)
  have D0 := hid (Below.refl w0.heap.size w0)
  obtain ⟨nm, ats, rs⟩ := t
  obtain ⟨ao, acap, hva, -⟩ := T0.out.1.split
  obtain ⟨ro, rcap, hvr, -⟩ := RdR.split T0.out.2
  simp only at hva hvr KE TV
  subst hva hvr
  generalize fE (nm, ats, rs) = ke at *
  generalize tabE (nm, ats, rs) = te at *
  have a0 : (0 : Int) ≤ (ats.length : Int) := by omega
  clear ht T0
  by_cases h0 : te = 0
  · subst h0
    rw [if_neg (by simp)] at KE
    by_cases h1 : 10 < ats.length
    · rw [if_pos (.inl h1)] at KE
      have i1 : decide ((10 : Int) < (ats.length : Int)) = true := by rw [decide_eq_true_iff]; omega
      have H1 := hid h1
      clear h1
      go_enter Tryz.func62, Tryz.ntmps62
      go_wp2_with fail
      rw [W0.out]
      go_wp2_with fail
      refine (TV.out _ D0.out).mono ?_
      rintro e w1 ⟨rfl, hb1⟩
      have D1 := hid (D0.out.trans (hb1.mono D0.out.size))
      obtain ⟨t10, t11, t12⟩ := C3.out _ D1.out
      clear hb1 t00 t01 t02
      go_wp2_with fail
      go_ret
      exact ⟨ret_int KE.out.symm, B0.out.trans (D1.out.mono hsz0)⟩
    · have i1 : decide ((10 : Int) < (ats.length : Int)) = false := by rw [decide_eq_false_iff_not]; omega
      by_cases h2 : 200 < rs.length
      · rw [if_pos (.inr h2)] at KE
        have i2 : decide ((200 : Int) < (rs.length : Int)) = true := by rw [decide_eq_true_iff]; omega
        have H1 := hid h1
        have H2 := hid h2
        clear h1 h2
        go_enter Tryz.func62, Tryz.ntmps62
        go_wp2_with fail
        rw [W0.out]
        go_wp2_with fail
        refine (TV.out _ D0.out).mono ?_
        rintro e w1 ⟨rfl, hb1⟩
        have D1 := hid (D0.out.trans (hb1.mono D0.out.size))
        obtain ⟨t10, t11, t12⟩ := C3.out _ D1.out
        clear hb1 t00 t01 t02
        go_wp2_with fail
        go_ret
        exact ⟨ret_int KE.out.symm, B0.out.trans (D1.out.mono hsz0)⟩
      · rw [if_neg (by intro h; rcases h with h | h; exact h1 h; exact h2 h)] at KE
        have i2 : decide ((200 : Int) < (rs.length : Int)) = false := by rw [decide_eq_false_iff_not]; omega
        have H1 := hid h1
        have H2 := hid h2
        clear h1 h2
        go_enter Tryz.func62, Tryz.ntmps62
        go_wp2_with fail
        rw [W0.out]
        go_wp2_with fail
        refine (TV.out _ D0.out).mono ?_
        rintro e w1 ⟨rfl, hb1⟩
        have D1 := hid (D0.out.trans (hb1.mono D0.out.size))
        obtain ⟨t10, t11, t12⟩ := C3.out _ D1.out
        clear hb1 t00 t01 t02
        go_wp2_with fail
        go_ret
        exact ⟨ret_int KE.out.symm, B0.out.trans (D1.out.mono hsz0)⟩
  · rw [if_pos h0] at KE
    have H0 := hid h0
    have i0 : (te == 0) = false := beq_eq_false_iff_ne.2 h0
    clear h0
    go_enter Tryz.func62, Tryz.ntmps62
    go_wp2_with fail
    rw [W0.out]
    go_wp2_with fail
    refine (TV.out _ D0.out).mono ?_
    rintro e w1 ⟨rfl, hb1⟩
    have D1 := hid (D0.out.trans (hb1.mono D0.out.size))
    obtain ⟨t10, t11, t12⟩ := C3.out _ D1.out
    clear hb1 t00 t01 t02
    go_wp2_with fail
    go_ret
    exact ⟨ret_int KE.out.symm, B0.out.trans (D1.out.mono hsz0)⟩

end Go.Proofs.YtgahpgmagfngfaaGreatDoor


/- The walks of partition.within, Of, Product, Holds. -/
namespace Go.Proofs.YtgahpgmagfngfaaGreatDoor
open Go.RowKit
set_option linter.unusedVariables false

theorem shr64 (s : S) (n : Nat) : (IntKind.u64.wrap (iv s) / 2 ^ n == 0) = shrOk s n := by
  have h1 : IntKind.u64.wrap (iv s) = (s.toNat : Int) := by
    rw [IntKind.wrap_u64]
    have := s.isLt
    unfold iv; omega
  unfold shrOk
  rw [h1, Bool.eq_iff_iff, beq_iff_eq, beq_iff_eq]
  have h2 : ((s.toNat : Int) / 2 ^ n) = ((s.toNat / 2 ^ n : Nat) : Int) := by push_cast; rfl
  rw [h2, ← BitVec.toNat_inj, BitVec.toNat_ushiftRight, Nat.shiftRight_eq_div_pow]
  generalize s.toNat / 2 ^ n = x
  show ((x : Nat) : Int) = 0 ↔ x = 0
  omega
theorem fine_of {t : T3} (h : tabE2 t = 0) (hok : okT t) : FineR t.2.1.length t.2.2 := ⟨fun r hr => ((tabE2_ok h).2.2 r hr).1, by have := (tabE2_ok h).1; omega, hok⟩
theorem fE_tab {t : T3} (h : fE t = 0) : tabE2 t = 0 := by
  obtain ⟨h1, h2, h3⟩ := fE_ok h
  unfold tabE2
  rw [if_neg (by simpa using h1), if_neg (by omega)]
set_option maxRecDepth 100000 in
theorem pwithin_any (t : T3) (av rv : Value) (s : S) (w : World) (ht : RdT w av rv t) (h16 : t.2.1.length ≤ 16) :
    Calls Tryz.prog 135 #[.agg #[.string t.1, av, rv], .int .u32 (iv s)] w fun e w' => e = .returned (.bool (shrOk s t.2.1.length)) ∧ Below w.heap.size w w' := by
  have hb0 := below_alloc w (.cells #[.string t.1, av, rv] 48)
  have C3 := hid (fun W h => cells3 (w := w) (a := .string t.1) (b := av) (c := rv) (t := 48) W h)
  have T0 := hid (ht.below hb0)
  obtain ⟨w0, hw0⟩ : ∃ w0 : World, w.alloc (.cells #[.string t.1, av, rv] 48) = w0 := ⟨_, rfl⟩
  rw [hw0] at hb0 C3 T0
  have B0 := hid hb0
  have W0 := hid hw0
  have hsz0 := hb0.size
  clear hb0 hw0
  obtain ⟨t00, t01, t02⟩ := C3.out _ (Below.refl _ _)
  obtain ⟨nm, ats, rs⟩ := t
  obtain ⟨ao, acap, hva, -⟩ := T0.out.1.split
  simp only at hva h16
  subst hva
  show Calls _ _ _ _ fun e w' => e = .returned (.bool (shrOk s ats.length)) ∧ Below w.heap.size w w'
  have a0 : (0 : Int) ≤ (ats.length : Int) := by omega
  have a1 : (ats.length : Int) ≤ 16 := by omega
  have a2 : (ats.length : Int) < 64 := by omega
  clear ht T0
  go_enter Tryz.func135, Tryz.ntmps135
  go_upto_region 1 with fail
  rw [W0.out]
  go_wp2_with fail
  go_ret
  exact ⟨ret_bool (shr64 s ats.length), B0.out⟩

set_option maxHeartbeats 1600000 in
set_option maxRecDepth 100000 in
theorem pOf_any (t : T3) (av rv : Value) (s : S) (w : World) (ht : RdT w av rv t) (hT : Tab w) (hE : tabE2 t = 0) (hok : okT t) (hs : sub s (fullN t.2.1.length)) :
    Calls Tryz.prog 94 #[.agg #[.string t.1, av, rv], .int .u32 (iv s)] w fun e w' => ∃ (v' : Value) (gs : List Gp), e = .returned (.tuple #[.agg #[.int .i64 (t.2.2.length : Int), v'], .int .i64 0]) ∧ RdG w' v' gs ∧ gs.map (·.2) = clsK (keyOn t.2.2 s) ∧ FarG w.heap.size v' gs ∧ Below w.heap.size w w' := by
  have hb0 := below_alloc w (.cells #[.string t.1, av, rv] 48)
  have C3 := hid (fun W h => cells3 (w := w) (a := .string t.1) (b := av) (c := rv) (t := 48) W h)
  have T0 := hid (ht.below hb0)
  obtain ⟨w0, hw0⟩ : ∃ w0 : World, w.alloc (.cells #[.string t.1, av, rv] 48) = w0 := ⟨_, rfl⟩
  rw [hw0] at hb0 C3 T0
  have B0 := hid hb0
  have W0 := hid hw0
  have hsz0 := hb0.size
  clear hb0 hw0
  obtain ⟨z0, z1⟩ := cells2 (w := w0) (a := .int .i64 0) (b := .slice none 0 0) (t := 165) _ (Below.refl _ _)
  have zf : ∀ j, (w0.alloc (.cells #[.int .i64 0, .slice none 0 0] 165)).frozen? ⟨w0.heap.size, j, none⟩ = false := fun j => by simp
  have hb1 := below_alloc w0 (.cells #[.int .i64 0, .slice none 0 0] 165)
  obtain ⟨w1, hw1⟩ : ∃ w1 : World, w0.alloc (.cells #[.int .i64 0, .slice none 0 0] 165) = w1 := ⟨_, rfl⟩
  have hs1 : w1.heap.size = w0.heap.size + 1 := by rw [← hw1]; simp
  rw [hw1] at z0 z1 zf hb1
  have q0 : w0.heap.size = w.heap.size + 1 := by rw [← W0.out]; simp
  rw [q0] at z0 z1 zf hs1
  have HS1 := hid hs1
  have HZ := hid (And.intro z0 (And.intro z1 zf))
  have W1 := hid hw1
  have D1 := hid hb1
  have HT1 := hid ((hT.below B0.out).below hb1)
  have T1 := hid (T0.out.below hb1)
  have E := hid (tabE2_tab hE)
  have TO := hid (tabE2_ok hE)
  have l2 := (tabE_len E.out).2
  have l1 := (tabE_len E.out).1
  have TV := hid (fun (W : World) (h : Below w1.heap.size w1 W) => tvalid_any t av rv W (T1.out.below h))
  rw [E.out] at TV
  have PW := hid (fun (W : World) (h : Below w1.heap.size w1 W) => pwithin_any t av rv s W (T1.out.below h) l1)
  rw [(shrOk_sub (by omega)).2 hs] at PW
  have PF := hid (fun (W : World) (h : Below w1.heap.size w1 W) => pof_any t av rv s W (T1.out.below h) (HT1.out.below h) (sub_full_bits (by omega) hs) (by omega) l2 (fun r hr => (TO.out.2.2 r hr).1) hok)
  have CC := hid (fun (W : World) (h : Below w1.heap.size w1 W) => And.intro (C3.out W (D1.out.trans (h.mono D1.out.size))) (And.intro ((h.cell (p := ⟨w.heap.size + 1, 0, none⟩) (by show w.heap.size + 1 < w1.heap.size; rw [HS1.out]; omega)).trans HZ.out.1) (And.intro ((h.cell (p := ⟨w.heap.size + 1, 1, none⟩) (by show w.heap.size + 1 < w1.heap.size; rw [HS1.out]; omega)).trans HZ.out.2.1) (And.intro ((h.frozen (p := ⟨w.heap.size + 1, 0, none⟩) (by show w.heap.size + 1 < w1.heap.size; rw [HS1.out]; omega)).trans (HZ.out.2.2 0)) ((h.frozen (p := ⟨w.heap.size + 1, 1, none⟩) (by show w.heap.size + 1 < w1.heap.size; rw [HS1.out]; omega)).trans (HZ.out.2.2 1))))))
  clear z0 z1 zf hb1 hw1 q0 hs1 l1 l2 hE hok hs ht hT E TO HZ
  obtain ⟨nm, ats, rs⟩ := t
  show Calls _ _ _ _ fun e w' => ∃ (v' : Value) (gs : List Gp), e = .returned (.tuple #[.agg #[.int .i64 (rs.length : Int), v'], .int .i64 0]) ∧ RdG w' v' gs ∧ gs.map (·.2) = clsK (keyOn rs s) ∧ FarG w.heap.size v' gs ∧ Below w.heap.size w w'
  have KO := hid (show (rs.map fun r => mkKS (kyB r.2.2 (memN s 32))) = keyOn rs s from rfl)
  obtain ⟨⟨c0, c1, c2⟩, -⟩ := CC.out _ (Below.refl _ _)
  go_enter Tryz.func94, Tryz.ntmps94
  go_upto_region 1 with fail
  rw [W0.out, W1.out]
  go_wp2_with fail
  refine (TV.out _ (Below.refl _ _)).mono ?_
  rintro e w2 ⟨rfl, hb2⟩
  have H2 := hid hb2
  clear hb2 c0 c1 c2
  obtain ⟨⟨c0, c1, c2⟩, -⟩ := CC.out _ H2.out
  go_wp2_with fail
  refine (PW.out _ H2.out).mono ?_
  rintro e w3 ⟨rfl, hb3⟩
  have H3 := hid (H2.out.trans (hb3.mono H2.out.size))
  clear hb3 c0 c1 c2
  obtain ⟨⟨c0, c1, c2⟩, -⟩ := CC.out _ H3.out
  go_wp2_with fail
  refine (PF.out _ H3.out).mono ?_
  rintro e w4 ⟨v4, gs, rfl, hrd, hgm, hfg, hb4⟩
  have H4 := hid (H3.out.trans (hb4.mono H3.out.size))
  obtain ⟨-, zz0, zz1, zf0, zf1⟩ := CC.out _ H4.out
  obtain ⟨o9, cap9, rfl⟩ := hrd.shape
  have RG9 := hid hrd
  have GM9 := hid hgm
  have HW1 := hid (show w.heap.size + 1 < w3.heap.size by have h1 := H3.out.size; have h2 := HS1.out; omega)
  have FG9 := hid (show FarG w3.heap.size (.slice o9 gs.length cap9) gs from hfg)
  obtain ⟨wf, hwf⟩ : ∃ wf : World, (w4.setCell ⟨w.heap.size + 1, 0, none⟩ (.int .i64 (rs.length : Int))).setCell ⟨w.heap.size + 1, 1, none⟩ (.slice o9 gs.length cap9) = wf := ⟨_, rfl⟩
  have r := set2p zz0 zz1 hwf
  have QG := hid (show RdG wf (.slice o9 gs.length cap9) gs by
    obtain ⟨f1, f2⟩ := FG9.out (w.heap.size + 1) HW1.out
    rw [← hwf]
    exact ⟨RdE.setFar (p := ⟨w.heap.size + 1, 1, none⟩) (RdE.setFar (p := ⟨w.heap.size + 1, 0, none⟩) RG9.out.1 f1) f1, fun g hg => RdE.setFar (p := ⟨w.heap.size + 1, 1, none⟩) (RdE.setFar (p := ⟨w.heap.size + 1, 0, none⟩) (RG9.out.2 g hg) (f2 g hg)) (f2 g hg)⟩)
  have QB := hid (show Below w.heap.size w wf by rw [← hwf]; exact (((B0.out.trans (D1.out.mono hsz0)).trans (H4.out.mono (by have h1 := D1.out.size; omega))).setCell (p := ⟨w.heap.size + 1, 0, none⟩) (by simp) _).setCell (p := ⟨w.heap.size + 1, 1, none⟩) (by simp) _)
  have QF := hid (show FarG w.heap.size (.slice o9 gs.length cap9) gs from fun j hj => FG9.out j (by have := HW1.out; omega))
  have HWF := hid hwf
  clear hb4 c0 c1 c2 hrd hgm hfg hwf RG9
  go_wp2_with fail
  try rw [HWF.out]
  exact bodyPost_ret (v := .tuple #[.agg #[.int .i64 (rs.length : Int), .slice o9 gs.length cap9], .int .i64 0]) (by simp [results, Tryz.results94, go_sem, r.1, r.2]) rfl ⟨_, gs, rfl, QG.out, by rw [← KO.out]; exact GM9.out, QF.out, QB.out⟩


end Go.Proofs.YtgahpgmagfngfaaGreatDoor


/- The walk of partition.Product. -/
namespace Go.Proofs.YtgahpgmagfngfaaGreatDoor
open Go.RowKit
set_option linter.unusedVariables false

theorem toList_madeCells_two (a b : Value) (n : Nat) : (madeCells #[a, b] (n * 2)).toList = (List.range (n * 2)).map fun j => if j % 2 = 0 then a else b := by
  unfold madeCells
  rw [Array.toList_map, Array.toList_range]
  apply List.map_congr_left
  intro j _
  have h : j % 2 = 0 ∨ j % 2 = 1 := by omega
  rcases h with h | h <;> simp [h]
theorem undAr2 : Tryz.prog.underlying 205 = some (.slice 206) := by kernel_rfl
theorem infoAr2 : (Tryz.prog.info? 206).map (fun i => (i.zero, i.size, i.bytes)) = some (some (.agg #[.int .i64 0, .int .i64 0]), 2, 16) := by kernel_rfl
def pk0 : PK := mkPK 0 0
theorem cA2_pk0 : cA2 pk0 = [.int .i64 0, .int .i64 0] := by
  have : pk0.1 = (0, 0) := mkPK_val ⟨by unfold inI; omega, by unfold inI; omega⟩
  unfold cA2; rw [this]

set_option maxHeartbeats 6400000 in
set_option maxRecDepth 100000 in
theorem pprod_any (n : Nat) (gs hs : List Gp) (cv dv : Value) (w : World) (hv : RdG w cv gs) (hu : RdG w dv hs) (hok : okQ n (gs.map (·.2))) (hok2 : okQ n (hs.map (·.2))) :
    Calls Tryz.prog 95 #[.agg #[.int .i64 (n : Int), cv], .agg #[.int .i64 (n : Int), dv]] w fun e w' => ∃ (v' : Value) (ps : List Gp), e = .returned (.tuple #[.agg #[.int .i64 (n : Int), v'], .int .i64 0]) ∧ RdG w' v' ps ∧ ps.map (·.2) = clsK (pairL n (gs.map (·.2)) (hs.map (·.2))) ∧ FarG w.heap.size v' ps ∧ Below w.heap.size w w' := by
  obtain ⟨co, ccap, rfl⟩ := hv.shape
  obtain ⟨do_, dcap, rfl⟩ := hu.shape
  have hb0 := below_alloc w (.cells #[.int .i64 (n : Int), .slice co gs.length ccap] 165)
  have C2 := hid (fun W h => cells2 (w := w) (a := .int .i64 (n : Int)) (b := .slice co gs.length ccap) (t := 165) W h)
  obtain ⟨w0, hw0⟩ : ∃ w0 : World, w.alloc (.cells #[.int .i64 (n : Int), .slice co gs.length ccap] 165) = w0 := ⟨_, rfl⟩
  have q0 : w0.heap.size = w.heap.size + 1 := by rw [← hw0]; simp
  rw [hw0] at hb0 C2
  have hb1 := below_alloc w0 (.cells #[.int .i64 (n : Int), .slice do_ hs.length dcap] 165)
  have D2 := hid (fun W h => cells2 (w := w0) (a := .int .i64 (n : Int)) (b := .slice do_ hs.length dcap) (t := 165) W h)
  obtain ⟨w1, hw1⟩ : ∃ w1 : World, w0.alloc (.cells #[.int .i64 (n : Int), .slice do_ hs.length dcap] 165) = w1 := ⟨_, rfl⟩
  have q1 : w1.heap.size = w.heap.size + 1 + 1 := by rw [← hw1]; simp [q0]
  rw [hw1] at hb1 D2
  have hb2 := below_alloc w1 (.cells #[.int .i64 0, .slice none 0 0] 165)
  obtain ⟨z0, z1⟩ := cells2 (w := w1) (a := .int .i64 0) (b := .slice none 0 0) (t := 165) _ (Below.refl _ _)
  have zf : ∀ j, (w1.alloc (.cells #[.int .i64 0, .slice none 0 0] 165)).frozen? ⟨w1.heap.size, j, none⟩ = false := fun j => by simp
  obtain ⟨w2, hw2⟩ : ∃ w2 : World, w1.alloc (.cells #[.int .i64 0, .slice none 0 0] 165) = w2 := ⟨_, rfl⟩
  have q2 : w2.heap.size = w.heap.size + 3 := by rw [← hw2]; simp [q1]
  rw [hw2] at hb2 z0 z1 zf
  rw [q1] at z0 z1 zf
  rw [q0] at D2
  have W0 := hid hw0
  have W1 := hid hw1
  have W2 := hid hw2
  have Q2 := hid q2
  have BW := hid ((hb0.trans (hb1.mono hb0.size)).trans (hb2.mono (by omega)))
  have CC := hid (fun W (h : Below w2.heap.size w2 W) => C2.out W (hb1.trans ((hb2.trans (h.mono hb2.size)).mono hb1.size)))
  have DD := hid (fun W (h : Below w2.heap.size w2 W) => D2.out W (hb2.trans (h.mono hb2.size)))
  have ZD := hid (fun (W : World) (h : Below w2.heap.size w2 W) => show (W.cell? ⟨w.heap.size + 1 + 1, 0, none⟩ = some (.int .i64 0) ∧ W.cell? ⟨w.heap.size + 1 + 1, 1, none⟩ = some (.slice none 0 0)) ∧ (W.frozen? ⟨w.heap.size + 1 + 1, 0, none⟩ = false ∧ W.frozen? ⟨w.heap.size + 1 + 1, 1, none⟩ = false) from by
    have hlt1 : w.heap.size + 1 + 1 < w2.heap.size := by omega
    exact ⟨⟨(h.cell (p := ⟨w.heap.size + 1 + 1, 0, none⟩) hlt1).trans z0, (h.cell (p := ⟨w.heap.size + 1 + 1, 1, none⟩) hlt1).trans z1⟩, (h.frozen (p := ⟨w.heap.size + 1 + 1, 0, none⟩) hlt1).trans (zf 0), (h.frozen (p := ⟨w.heap.size + 1 + 1, 1, none⟩) hlt1).trans (zf 1)⟩)
  have V0 := hid (fun W (h : Below w2.heap.size w2 W) => pboth_any n gs hs _ _ W (hv.below (BW.out.trans (h.mono BW.out.size))) (hu.below (BW.out.trans (h.mono BW.out.size))) hok hok2)
  have V1 := hid (fun W (h : Below w2.heap.size w2 W) => plabels_any n gs _ W (hv.below (BW.out.trans (h.mono BW.out.size))) hok)
  have V2 := hid (fun W (h : Below w2.heap.size w2 W) => plabels_any n hs _ W (hu.below (BW.out.trans (h.mono BW.out.size))) hok2)
  have HN := hid hok.le
  obtain ⟨A, hA⟩ : ∃ A, gs.map (·.2) = A := ⟨_, rfl⟩
  obtain ⟨B, hB⟩ : ∃ B, hs.map (·.2) = B := ⟨_, rfl⟩
  rw [hA] at V1 hok
  rw [hB] at V2 hok2
  rw [hA, hB]
  have LIN := hid (fun i (hi : i < n) => show inI (labP A i) ∧ inI (labP B i) from ⟨lab_in hok hi, lab_in hok2 hi⟩)
  have GC := hid (fun (v : Value) (W : World) (hv : RdC cA2 W v (pairL n A B)) => groupsA_any (pairL n A B) v W hv (by rw [pairL_length]; exact HN.out))
  have PLN := hid (pairL_length n A B)
  have PLA := hid (fun i (hi : i < n) => show (pairL n A B).getD i pk0 = mkPK (labP A i) (labP B i) from getD_at _ (by unfold pairL; rw [List.getElem?_map, List.getElem?_range hi]; rfl))
  generalize pairL n A B = PL at *
  obtain ⟨i0, hi, hz0, hz1, hz2⟩ := info_parts infoAr2
  have I0 := hid hi
  have I1 := hid hz0
  have I2 := hid hz1
  have I3 := hid (show i0.bytes * n ≤ 281474976710656 by rw [hz2]; have := HN.out; omega)
  obtain ⟨c0, c1⟩ := CC.out _ (Below.refl _ _)
  obtain ⟨d0, d1⟩ := DD.out _ (Below.refl _ _)
  have HS := hid (fun (W : World) (h : Below w2.heap.size w2 W) => show Below w2.heap.size w2 W ∧ (W.cell? ⟨w.heap.size, 0, none⟩ = some (.int .i64 (n : Int)) ∧ W.cell? ⟨w.heap.size, 1, none⟩ = some (.slice co gs.length ccap)) ∧ (W.cell? ⟨w.heap.size + 1, 0, none⟩ = some (.int .i64 (n : Int)) ∧ W.cell? ⟨w.heap.size + 1, 1, none⟩ = some (.slice do_ hs.length dcap)) from ⟨h, CC.out W h, DD.out W h⟩)
  clear hv hu hok hok2 hb0 hb1 hb2 hw0 hw1 hw2 C2 D2 q0 q1 q2 z0 z1 zf hA hB hi hz0 hz1 hz2
  go_enter Tryz.func95, Tryz.ntmps95
  go_upto_region 1 with fail
  rw [W0.out, W1.out, W2.out]
  go_wp2_with fail
  refine (V0.out _ (Below.refl _ _)).mono ?_
  rintro e w3 ⟨rfl, hb3⟩
  have H3 := hid hb3
  clear hb3 c0 c1 d0 d1
  obtain ⟨c0, c1⟩ := CC.out _ H3.out
  obtain ⟨d0, d1⟩ := DD.out _ H3.out
  go_wp2_with fail
  go_region_held3 (fun W => Below w2.heap.size w2 W ∧ (W.cell? ⟨w.heap.size, 0, none⟩ = some (.int .i64 (n : Int)) ∧ W.cell? ⟨w.heap.size, 1, none⟩ = some (.slice co gs.length ccap)) ∧ (W.cell? ⟨w.heap.size + 1, 0, none⟩ = some (.int .i64 (n : Int)) ∧ W.cell? ⟨w.heap.size + 1, 1, none⟩ = some (.slice do_ hs.length dcap)))
    (first | exact HS.out _ (below_drewN' H3.out _) | exact HS.out _ H3.out.drew | exact HS.out _ H3.out | exact HS.out _ (by assumption))
    (first
      | (go_at_call 138; have hS := And.left ‹Below w2.heap.size w2 _ ∧ _ ∧ _›; with_reducible refine (V1.out _ hS).mono ?_; rintro e wa ⟨va, rfl, hoa, hba⟩; have hLa := hS.trans (hba.mono hS.size); have hra := RdE.of_owns (f := encJ) (xs := labR n A) (by rw [labR_length]; exact hoa) (by rw [labR_length]; have := HN.out; omega); (first | (replace hrb := RdE.below hrb hba) | skip); clear hba hS hoa)
      | (go_at_call 138; have hS := And.left ‹Below w2.heap.size w2 _ ∧ _ ∧ _›; with_reducible refine (V2.out _ hS).mono ?_; rintro e wb ⟨vb, rfl, hob, hbb⟩; have hLb := hS.trans (hbb.mono hS.size); have hrb := RdE.of_owns (f := encJ) (xs := labR n B) (by rw [labR_length]; exact hob) (by rw [labR_length]; have := HN.out; omega); (first | (replace hra := RdE.below hra hbb) | skip); clear hbb hS hob))
  have H4 := hid hLb
  have RA := hid hra
  have RB := hid hrb
  obtain ⟨xo, xcap, rfl, -, hxc⟩ := hra.split
  obtain ⟨yo, ycap, rfl, -, hyc⟩ := hrb.split
  have XC := hid (fun (k : Nat) (hk : k < n) => show ∃ b off, xo = some ⟨b, off, none⟩ ∧ ∀ W, Below wb.heap.size wb W → W.cell? ⟨b, off + k, none⟩ = some (.int .i64 (labP A k)) from hxc k _ (labR_at hk A))
  have YC := hid (fun (k : Nat) (hk : k < n) => show ∃ b off, yo = some ⟨b, off, none⟩ ∧ ∀ W, Below wb.heap.size wb W → W.cell? ⟨b, off + k, none⟩ = some (.int .i64 (labP B k)) from hyc k _ (labR_at hk B))
  clear hLa hLb hra hrb hxc hyc c0 c1 d0 d1
  obtain ⟨c0, c1⟩ := CC.out _ H4.out
  simp only [labR_length]
  go_wp2_with (at_make; refine wpList_make_full _ rfl _ _ 205 rfl wb.heap.size 206 i0 (.agg #[.int .i64 0, .int .i64 0]) 2 undAr2 I0.out I1.out I2.out _ _ _ _ n rfl rfl (by simp) (by simp) I3.out (by have := HN.out; unfold maxLen; omega) (Nat.le_refl _) ?_)
  intro w5 hown hgrow
  have hb5 : Below wb.heap.size wb w5 := ⟨hgrow.os, hgrow.tape, hgrow.output, hgrow.size, fun k hk => hgrow.block k hk (fun e => by cases e)⟩
  have B5 := hid hb5
  obtain ⟨kb, hkb⟩ : ∃ kb, wb.heap.size = kb := ⟨_, rfl⟩
  have O5 := hid (show w5.ownsRow kb 206 2 (.slice (some ⟨kb, 0, none⟩) n n) n ((fillL n pk0 (fun j => PL.getD j pk0) 0).flatMap cA2) by
    rw [← hkb, fillL_zero, flat_replicate2 cA2_pk0, ← toList_madeCells_two]
    first | exact hown | simpa [Value.cells] using hown)
  have HKB := hid hkb
  rw [hkb]
  clear hown hgrow hb5 hkb c0 c1
  go_wp2_with fail
  go_loopw [27] (fun i wr => ∃ k : Nat, k ≤ n ∧ i = .int .i64 k ∧ wr.ownsRow kb 206 2 (.slice (some ⟨kb, 0, none⟩) n n) n ((fillL n pk0 (fun j => PL.getD j pk0) k).flatMap cA2) ∧ Below kb w5 wr) (fun i _ => n - (intOf i).toNat)
  case atStart => exact ⟨0, Nat.zero_le _, rfl, O5.out, Below.refl _ _⟩
  case round =>
    obtain ⟨k, hk, rfl, hown, hnx⟩ := hrel
    have k0 : (0 : Int) ≤ (k : Int) := by omega
    have k9 : (k : Int) ≤ 1000 := by have := HN.out; omega
    have BW5 := hid (show Below wb.heap.size wb wr from B5.out.trans (hnx.mono (by rw [HKB.out]; exact Nat.le_refl _)))
    by_cases hlt : k < n
    · have kn : (k : Int) < (n : Int) := by omega
      obtain ⟨xb, xoff, rfl, hx⟩ := XC.out k hlt
      obtain ⟨yb, yoff, rfl, hy⟩ := YC.out k hlt
      have e0 := hx wr BW5.out
      have e1 := hy wr BW5.out
      have PK1 := hid (show (PL.getD k pk0).1 = (labP A k, labP B k) by rw [PLA.out k hlt]; exact mkPK_val (LIN.out k hlt))
      obtain ⟨la, hla⟩ : ∃ la, labP A k = la := ⟨_, rfl⟩
      obtain ⟨lb, hlb⟩ : ∃ lb, labP B k = lb := ⟨_, rfl⟩
      rw [hla, hlb] at PK1
      rw [hla] at e0
      rw [hlb] at e1
      have hcA : wr.cell? ⟨kb, k * 2, none⟩ = some (.int .i64 0) := by
        rw [hown.cellAt (k * 2) (by omega)]
        exact flat_at cA2_length _ k pk0 0 _ (by rw [fillL_at hlt, if_neg (by omega)]) (by rw [cA2_pk0]; rfl)
      have hcB : wr.cell? ⟨kb, k * 2 + 1, none⟩ = some (.int .i64 0) := by
        rw [hown.cellAt (k * 2 + 1) (by omega)]
        exact flat_at cA2_length _ k pk0 1 _ (by rw [fillL_at hlt, if_neg (by omega)]) (by rw [cA2_pk0]; rfl)
      have hfz : ∀ j, wr.frozen? ⟨kb, j, none⟩ = false := fun j => hown.frozenAt _
      have f0 := hfz (k * 2)
      have f1 := hfz (k * 2 + 1)
      have HO := hid hown
      have HNX := hid hnx
      have HLT := hid hlt
      clear hx hy hown hnx hlt hla hlb
      go_wp2_with fail
      go_still_tail 12, (by kernel_rfl)
      have ST1 := HO.out.stored (k * 2) (.int .i64 la)
      have ST2 := ST1.1.stored (k * 2 + 1) (.int .i64 lb)
      have HKW := HKB.out
      have hkw : kb < wr.heap.size := by rcases HO.out.2 with ⟨h, _⟩ | ⟨g, cap, cur, hv, _, hg, _⟩; · cases h
                                         · cases hv; exact (Array.getElem?_eq_some_iff.1 hg).1
      have FS : ((((fillL n pk0 (fun j => PL.getD j pk0) k).flatMap cA2).set (k * 2) (.int .i64 la)).set (k * 2 + 1) (.int .i64 lb)) = (fillL n pk0 (fun j => PL.getD j pk0) (k + 1)).flatMap cA2 := by
        rw [flat_set2 cA2_length _ k (PL.getD k pk0) (.int .i64 la) (.int .i64 lb) (by rw [fillL_length]; exact HLT.out) (by unfold cA2; rw [PK1.out]), fillL_set]
      have S1 := hid (show ((wr.setCell ⟨kb, k * 2, none⟩ (.int .i64 la)).setCell ⟨kb, k * 2 + 1, none⟩ (.int .i64 lb)).ownsRow kb 206 2 (.slice (some ⟨kb, 0, none⟩) n n) n ((fillL n pk0 (fun j => PL.getD j pk0) (k + 1)).flatMap cA2) by rw [← FS]; exact ST2.1)
      have S2 := hid ((HNX.out.setCell (p := ⟨kb, k * 2, none⟩) (Nat.le_refl _) (.int .i64 la)).setCell (p := ⟨kb, k * 2 + 1, none⟩) (Nat.le_refl _) (.int .i64 lb))
      clear ST1 ST2 FS HKW hkw
      go_wp2_with fail
      go_roundw
      case rel => exact ⟨k + 1, by have := HLT.out; omega, by go_num, S1.out.drew, S2.out.drew⟩
      case measure => have := HLT.out; simp [intOf]; omega
    · have hke : n ≤ k := by omega
      rw [fillL_all hke, range_getD pk0 PLN.out.symm] at hown
      have hrk : RdC cA2 wr (.slice (some ⟨kb, 0, none⟩) n n) PL := by
        have := RdC.of_owns (xs := PL) (c := cA2) (w := wr) cA2_length (by rw [PLN.out]; exact hown) (by have := PLN.out; have := HN.out; omega)
        exact this
      have RK := hid hrk
      have DW := hid (show Below w2.heap.size w2 wr from H4.out.trans (BW5.out.mono H4.out.size))
      have GCK := hid (fun (W : World) (h : Below wr.heap.size wr W) => GC.out _ W (RdC.below RK.out h))
      have CD := hid (fun (W : World) (h : Below wr.heap.size wr W) => CC.out W (DW.out.trans (h.mono DW.out.size)))
      have ZE := hid (fun (W : World) (h : Below wr.heap.size wr W) => ZD.out W (DW.out.trans (h.mono DW.out.size)))
      obtain ⟨y0, y1⟩ := CD.out wr (Below.refl _ _)
      have HW1 := hid (show w.heap.size + 1 + 1 < wr.heap.size by have h1 := DW.out.size; have h2 := Q2.out; omega)
      have BFW := hid (BW.out.trans (DW.out.mono BW.out.size))
      clear hown hnx hk hke hrk
      go_wp2_with fail
      go_region_law ((go_simp; go_at_call 139; refine (GCK.out _ (below_drewN wr.heap.size wr 1)).mono ?_; rintro e w9 ⟨v9, ps, rfl, hrd, hgm, hfg, hb9⟩; have hL := (below_drewN wr.heap.size wr 1).trans hb9; obtain ⟨d0, d1⟩ := CD.out _ hL; obtain ⟨⟨zz0, zz1⟩, zf0, zf1⟩ := ZE.out _ hL; obtain ⟨o9, cap9, hv9, -⟩ := hrd.1.split; subst hv9; have RG9 := hid hrd; have GM9 := hid hgm; have FG9 := hid (show FarG wr.heap.size _ ps from fun j hj => hfg j hj); have BL9 := hid hL; clear hrd hgm hfg hb9 hL))
      all_goals
        obtain ⟨wf, hwf⟩ : ∃ wf : World, (w9.setCell ⟨w.heap.size + 1 + 1, 0, none⟩ (.int .i64 (n : Int))).setCell ⟨w.heap.size + 1 + 1, 1, none⟩ (.slice o9 ps.length cap9) = wf := ⟨_, rfl⟩
        have r := set2p zz0 zz1 hwf
        have QG : RdG wf (.slice o9 ps.length cap9) ps := by
          obtain ⟨f1, f2⟩ := FG9.out (w.heap.size + 1 + 1) HW1.out
          rw [← hwf]
          exact ⟨RdE.setFar (p := ⟨w.heap.size + 1 + 1, 1, none⟩) (RdE.setFar (p := ⟨w.heap.size + 1 + 1, 0, none⟩) RG9.out.1 f1) f1, fun g hg => RdE.setFar (p := ⟨w.heap.size + 1 + 1, 1, none⟩) (RdE.setFar (p := ⟨w.heap.size + 1 + 1, 0, none⟩) (RG9.out.2 g hg) (f2 g hg)) (f2 g hg)⟩
        have QB : Below w.heap.size w wf := by rw [← hwf]; exact ((BFW.out.trans (BL9.out.mono BFW.out.size)).setCell (p := ⟨w.heap.size + 1 + 1, 0, none⟩) (by show w.heap.size ≤ w.heap.size + 1 + 1; omega) _).setCell (p := ⟨w.heap.size + 1 + 1, 1, none⟩) (by show w.heap.size ≤ w.heap.size + 1 + 1; omega) _
        have QF : FarG w.heap.size (.slice o9 ps.length cap9) ps := fun j hj => FG9.out j (by have := HW1.out; omega)
        go_wp2_with fail
        try rw [hwf]
        exact bodyPost_ret (v := .tuple #[.agg #[.int .i64 (n : Int), .slice o9 ps.length cap9], .int .i64 0]) (by simp [results, Tryz.results95, go_sem, r.1, r.2]) rfl ⟨_, ps, rfl, QG, GM9.out, QF, QB⟩

end Go.Proofs.YtgahpgmagfngfaaGreatDoor


/- The walks of fdmine's lattice: determines, Level. -/
namespace Go.Proofs.YtgahpgmagfngfaaGreatDoor
open Go.RowKit
set_option linter.unusedVariables false

theorem beq_dec (x y : Int) : (x == y) = decide (x = y) := by rw [Bool.eq_iff_iff, beq_iff_eq, decide_eq_true_iff]
theorem iv_nonneg' (s : S) : 0 ≤ iv s := by unfold iv; omega
theorem iv_toNat' (s : S) : (iv s).toNat = s.toNat := by unfold iv; omega
set_option maxRecDepth 100000 in
theorem fdet_any (m a : Nat) (R : Nat → Int) (rv : Value) (s : S) (w : World) (hm : m ≤ 10) (ha : a < m) (hs : sub s (fullN m)) (hr : RdE encJ w rv ((List.range (2 ^ m)).map R)) :
    Calls Tryz.prog 99 #[.agg #[.int .i64 (m : Int), rv], .int .u32 (iv s), .int .i64 (a : Int)] w fun e w' => e = .returned (.bool (decide (R s.toNat = R (s ||| bit a).toNat))) ∧ Below w.heap.size w w' := by
  have hN : 2 ^ m ≤ 2 ^ 10 := Nat.pow_le_pow_right (by omega) hm
  have h2 : sub (s ||| bit a) (fullN m) := sub_or.2 ⟨hs, bit_full ha (by omega)⟩
  have l1 := sub_full_lt.1 hs
  have l2 := sub_full_lt.1 h2
  obtain ⟨ro, rcap, hform, -, hc⟩ := hr.split
  have hl : ((List.range (2 ^ m)).map R).length = 2 ^ m := by simp
  rw [hl] at hform
  subst hform
  obtain ⟨b, off, rfl, h3⟩ := hc s.toNat (R s.toNat) (by rw [List.getElem?_map, List.getElem?_range l1]; rfl)
  obtain ⟨b', off', hle, h4⟩ := hc (s ||| bit a).toNat (R (s ||| bit a).toNat) (by rw [List.getElem?_map, List.getElem?_range l2]; rfl)
  simp only [Option.some.injEq, Addr.mk.injEq, and_true] at hle
  obtain ⟨rfl, rfl⟩ := hle
  have hb := below_alloc w (.cells #[.int .i64 (m : Int), .slice (some ⟨b, off, none⟩) (2 ^ m) rcap] 128)
  obtain ⟨c0, c1⟩ := cells2 (w := w) (a := .int .i64 (m : Int)) (b := .slice (some ⟨b, off, none⟩) (2 ^ m) rcap) (t := 128) _ (Below.refl _ _)
  have e1 := h3 _ hb
  have e2 := h4 _ hb
  unfold encJ at e1 e2
  have B0 := hid hb
  have i1 := iv_nonneg' s
  have i2 := iv_nonneg' (s ||| bit a)
  have j1 : iv s < ((2 ^ m : Nat) : Int) := by unfold iv; omega
  have j2 : iv (s ||| bit a) < ((2 ^ m : Nat) : Int) := by unfold iv; omega
  rw [← iv_toNat' s] at e1 ⊢
  rw [← iv_toNat' (s ||| bit a)] at e2 ⊢
  have a0 : (0 : Int) ≤ (a : Int) := by omega
  have a1 : (a : Int) < 32 := by omega
  clear hr hc h3 h4 hb hl hs h2 l1 l2
  unfold bit at *
  generalize 2 ^ m = N at *
  go_enter Tryz.func99, Tryz.ntmps99
  go_upto_region 1 with fail
  go_quiet (fail)
  go_wp2_with fail
  go_ret
  exact ⟨ret_bool (beq_dec _ _), below_drewN' B0.out _⟩

/-- The sets of a size below a number. -/
def levN (k q : Nat) : List S := ((List.range q).map (BitVec.ofNat 32)).filter fun s => decide (pop s = k)
theorem levN_next (k q : Nat) : levN k (q + 1) = levN k q ++ if pop (BitVec.ofNat 32 q) = k then [BitVec.ofNat 32 q] else [] := by
  unfold levN
  rw [List.range_succ, List.map_append, List.filter_append, List.map_cons, List.map_nil, List.filter_cons, List.filter_nil]
  by_cases h : pop (BitVec.ofNat 32 q) = k
  · rw [if_pos h, if_pos (decide_eq_true h)]
  · rw [if_neg h, if_neg (by rw [decide_eq_true_iff]; exact h)]
theorem levN_length (k q : Nat) : (levN k q).length ≤ q := by
  unfold levN
  refine Nat.le_trans (List.length_filter_le _ _) (by simp)
theorem levN_all {m : Nat} (hm : m ≤ 16) (k : Nat) : levN k (2 ^ m) = levL m k := by
  have hN : 2 ^ m ≤ 2 ^ 16 := Nat.pow_le_pow_right (by omega) hm
  have h1 : IsOrd (levN k (2 ^ m)) (fun s => sub s (fullN m) ∧ pop s = k) := by
    refine ⟨?_, fun s => ?_⟩
    · unfold levN
      rw [List.pairwise_filter, List.pairwise_map]
      refine List.Pairwise.imp_of_mem ?_ List.pairwise_lt_range
      intro a b ha hb hab h1 h2
      rw [decide_eq_true_iff] at h1 h2
      have := List.mem_range.1 ha
      have := List.mem_range.1 hb
      refine (bef_iff _ _).2 (.inr ⟨by rw [h1, h2], ?_⟩)
      rw [BitVec.toNat_ofNat, BitVec.toNat_ofNat, Nat.mod_eq_of_lt (by omega), Nat.mod_eq_of_lt (by omega)]
      exact hab
    · unfold levN
      rw [List.mem_filter, decide_eq_true_iff, List.mem_map]
      refine and_congr ?_ Iff.rfl
      rw [sub_full_lt]
      constructor
      · rintro ⟨j, hj, rfl⟩
        have := List.mem_range.1 hj
        rw [BitVec.toNat_ofNat, Nat.mod_eq_of_lt (by omega)]; exact this
      · intro h
        exact ⟨s.toNat, List.mem_range.2 h, by simp⟩
  exact h1.uniq (levL_ord m k) fun _ => Iff.rfl

theorem iv_ofNat {q : Nat} (h : q < 4294967296) : iv (BitVec.ofNat 32 q) = (q : Int) := by
  unfold iv; rw [BitVec.toNat_ofNat, Nat.mod_eq_of_lt (by omega)]
theorem iv_bit {m : Nat} (h : m < 32) : iv (1#32 <<< m) = ((2 ^ m : Nat) : Int) := by
  have e : (1#32 <<< m).toNat = 2 ^ m := by
    rw [BitVec.toNat_shiftLeft]
    have h2 : 2 ^ m < 2 ^ 32 := Nat.pow_lt_pow_right (by omega) h
    show (1 <<< m) % 2 ^ 32 = 2 ^ m
    rw [Nat.shiftLeft_eq, Nat.one_mul, Nat.mod_eq_of_lt h2]
  unfold iv; rw [e]
theorem ofNat_succ (q : Nat) : BitVec.ofNat 32 q + 1#32 = BitVec.ofNat 32 (q + 1) := by
  apply BitVec.eq_of_toNat_eq; simp
set_option maxRecDepth 100000 in
theorem alevel_any (m k : Nat) (w : World) (hm : m ≤ 16) (hk : k ≤ m) :
    Calls Tryz.prog 97 #[.int .i64 (m : Int), .int .i64 (k : Int)] w fun e w' => ∃ v', e = .returned (.tuple #[v', .int .i64 0]) ∧ w'.ownsRow w.heap.size 55 1 v' (levL m k).length ((levL m k).map enc) ∧ (levL m k).length ≤ 65536 ∧ Below w.heap.size w w' := by
  have hN : 2 ^ m ≤ 2 ^ 16 := Nat.pow_le_pow_right (by omega) hm
  have HN := hid hN
  have LN := hid (fun q => levN_next k q)
  have LL := hid (fun q => levN_length k q)
  have LE := hid (levN_all hm k)
  have hbit := iv_bit (m := m) (by omega)
  have HB := hid hbit
  generalize levL m k = RES at *
  have a0 : decide ((m : Int) < 0) = false := by rw [decide_eq_false_iff_not]; omega
  have a1 : decide ((16 : Int) < (m : Int)) = false := by rw [decide_eq_false_iff_not]; omega
  have a2 : decide ((k : Int) < 0) = false := by rw [decide_eq_false_iff_not]; omega
  have a3 : decide (m < k) = false := by rw [decide_eq_false_iff_not]; omega
  have a4 : (0 : Int) ≤ (m : Int) := by omega
  have a5 : (m : Int) < 32 := by omega
  have SZ := hid (fun (s : S) (W : World) => asize_any s W)
  simp only [enc_eq] at SZ
  clear hbit hN
  go_enter Tryz.func97, Tryz.ntmps97
  go_wp2_with fail
  go_loopw [6, 7] (fun v i wr => ∃ q : Nat, q ≤ 2 ^ m ∧ i = .int .u32 (iv (BitVec.ofNat 32 q)) ∧ wr.ownsRow w.heap.size 55 1 v (levN k q).length ((levN k q).map enc) ∧ Below w.heap.size w wr) (fun _ i _ => 2 ^ m - (intOf i).toNat)
  case atStart => exact ⟨0, Nat.zero_le _, rfl, World.ownsRow_nil _ _ _ _, Below.refl _ _⟩
  case round =>
    obtain ⟨q, hq, rfl, hown, hnx⟩ := hrel
    have hsz := hnx.size
    have hqn := HN.out
    have EQ := hid (iv_ofNat (q := q) (by omega))
    by_cases hlt : q < 2 ^ m
    · have c1 : iv (BitVec.ofNat 32 q) < iv (1#32 <<< m) := by rw [EQ.out, HB.out]; omega
      have LN1 := hid (LN.out q)
      have LL1 := hid (LL.out q)
      have NXT := hid (ofNat_succ q)
      have S1 := hid (fun (W : World) => SZ.out (BitVec.ofNat 32 q) W)
      have HLT := hid hlt
      obtain ⟨xs, hxs⟩ : ∃ xs, levN k q = xs := ⟨_, rfl⟩
      rw [hxs] at hown LN1 LL1
      have NXI := hid (iv_ofNat (q := q + 1) (by omega))
      obtain ⟨s, hs⟩ : ∃ s, BitVec.ofNat 32 q = s := ⟨_, rfl⟩
      rw [hs] at EQ c1 S1 LN1 NXT
      rw [hs]
      have NX2 := hid (show iv (s + 1#32) = ((q + 1 : Nat) : Int) by rw [NXT.out]; exact NXI.out)
      clear hlt hq hxs hs hqn
      by_cases hp : pop s = k
      · rw [if_pos hp] at LN1
        have hp2 : ((pop s : Int) == (k : Int)) = true := by rw [beq_iff_eq]; omega
        generalize pop s = ps at *
        clear hp
        go_wp2_with fail
        refine (S1.out _).mono ?_
        rintro e w3 ⟨rfl, qd, rfl⟩
        have hown3 : (wr.drewN qd).ownsRow w.heap.size 55 1 _ xs.length (xs.map enc)   := own_below hown (below_drewN _ _ _)
        have hn3 := below_drewN' hnx qd
        clear hown hnx
        have hxl : xs.length ≤ 65536 := by have h1 := LL1.out; have h2 := HLT.out; have h3 := HN.out; omega
        obtain ⟨w3, hw3⟩ : ∃ w3, wr.drewN qd = w3 := ⟨_, rfl⟩
        have hs3 : w.heap.size ≤ w3.heap.size := by rw [← hw3]; exact hsz
        rw [hw3] at hown3 hn3 ⊢
        clear hw3
        go_wp2_with (at_builtin; refine wpList_push rfl _ _ 59 rfl w.heap.size 55 (.int .u32 0) 4 undSets infoSet rfl (by decide) enc (fun _ => rfl) _ xs rfl (hown3.alloc _) ⟨w3.heap.size, 0, none⟩ s rfl cell_new (by omega) (by simp; omega) ?_)
        intro v' w4 hown' hgrow
        have hb1 := below_push hn3 hs3 hown3 hgrow
        clear hgrow hown3 hn3
        go_wp2_with fail
        go_roundw
        case rel => exact ⟨q + 1, by have := HLT.out; omega, by rw [← NXT.out], by rw [LN1.out]; simpa using hown', hb1⟩
        case measure =>
          have h1 := HLT.out
          have h2 := EQ.out
          have h3 := NX2.out
          simp [intOf]; omega
      · rw [if_neg hp] at LN1
        have hp2 : ((pop s : Int) == (k : Int)) = false := by rw [beq_eq_false_iff_ne]; omega
        generalize pop s = ps at *
        clear hp
        go_wp2_with fail
        refine (S1.out _).mono ?_
        rintro e w3 ⟨rfl, qd, rfl⟩
        go_wp2_with fail
        go_roundw
        case rel => exact ⟨q + 1, by have := HLT.out; omega, by rw [← NXT.out], by rw [LN1.out, List.append_nil]; exact own_below hown (below_drewN _ _ _), below_drewN' hnx qd⟩
        case measure =>
          have h1 := HLT.out
          have h2 := EQ.out
          have h3 := NX2.out
          simp [intOf]; omega
    · have c1 : ¬ iv (BitVec.ofNat 32 q) < iv (1#32 <<< m) := by rw [EQ.out, HB.out]; omega
      have hqe : q = 2 ^ m := by omega
      rw [hqe, LE.out] at hown
      have HR := hid (show RES.length ≤ 65536 by have := LL.out (2 ^ m); rw [LE.out] at this; have := HN.out; omega)
      have HO := hid hown
      have HNX := hid hnx
      clear hown hnx hqe
      go_wp2_with fail
      go_ret2
      exact ⟨_, rfl, HO.out, HR.out, HNX.out⟩

end Go.Proofs.YtgahpgmagfngfaaGreatDoor


/- The walk of fdmine.climb. -/
namespace Go.Proofs.YtgahpgmagfngfaaGreatDoor
open Go.RowKit
set_option linter.unusedVariables false

theorem fi64_pow {m : Nat} (h : m ≤ 16) : IntKind.i64.wrap ((2 : Int) ^ m) = ((2 ^ m : Nat) : Int) := by
  have e : ((2 : Int) ^ m) = ((2 ^ m : Nat) : Int) := by rw [Int.natCast_pow]; rfl
  have k : 2 ^ m ≤ 65536 := Nat.pow_le_pow_right (by omega) h
  rw [e]
  generalize 2 ^ m = N at k ⊢
  rw [IntKind.wrap_i64]; omega
def cPt (p : Value × Value) : List Value := [p.1, p.2]
theorem cPt_length (p : Value × Value) : (cPt p).length = 2 := rfl
theorem undPts : Tryz.prog.underlying 162 = some (.slice 165) := by kernel_rfl
theorem infoPt : (Tryz.prog.info? 165).map (fun i => (i.zero, i.size, i.bytes)) = some (some (.agg #[.int .i64 0, .slice none 0 0]), 2, 32) := by kernel_rfl
def PartOk (w : World) (B : Nat) (v : Value) (cls : List (List Int)) : Prop := ∃ gs : List Gp, RdG w v gs ∧ gs.map (·.2) = cls ∧ FarG B v gs
theorem PartOk.below {w w' : World} {B : Nat} {v : Value} {cls : List (List Int)} (h : PartOk w B v cls) (hb : Below w.heap.size w w') : PartOk w' B v cls := by
  obtain ⟨gs, h1, h2, h3⟩ := h
  exact ⟨gs, h1.below hb, h2, h3⟩
theorem PartOk.set {w : World} {B b : Nat} {v : Value} {cls : List (List Int)} (h : PartOk w B v cls) (hb : b < B) (j : Nat) (x : Value) : PartOk (w.setCell ⟨b, j, none⟩ x) B v cls := by
  obtain ⟨gs, h1, h2, h3⟩ := h
  obtain ⟨f1, f2⟩ := h3 b hb
  exact ⟨gs, ⟨RdE.setFar (p := ⟨b, j, none⟩) h1.1 f1, fun g hg => RdE.setFar (p := ⟨b, j, none⟩) (h1.2 g hg) (f2 g hg)⟩, h2, h3⟩
theorem PartOk.mono {w : World} {B B' : Nat} {v : Value} {cls : List (List Int)} (h : PartOk w B v cls) (hb : B' ≤ B) : PartOk w B' v cls := by
  obtain ⟨gs, h1, h2, h3⟩ := h
  exact ⟨gs, h1, h2, fun j hj => h3 j (by omega)⟩

/-! A set without its least member, and that. -/
theorem rest_sub (s : S) : sub (s &&& (s - 1#32)) s := fun i hi h => by rw [BitVec.getLsbD_and, Bool.and_eq_true] at h; exact h.1
theorem rest_lt {s : S} (h : s ≠ 0#32) : (s &&& (s - 1#32)).toNat < s.toNat := by
  have h0 : s.toNat ≠ 0 := fun e => h (BitVec.eq_of_toNat_eq (by simpa using e))
  have h1 : (s - 1#32).toNat = s.toNat - 1 := by
    rw [BitVec.toNat_sub]
    have := s.isLt
    simp only [BitVec.toNat_ofNat]; omega
  have h2 : (s &&& (s - 1#32)).toNat ≤ (s - 1#32).toNat := by rw [BitVec.toNat_and]; exact Nat.and_le_right
  omega
theorem low_lt {s : S} (h : s &&& (s - 1#32) ≠ 0#32) : (s &&& ~~~ (s &&& (s - 1#32))).toNat < s.toNat := by
  refine sub_toNat_lt (fun i hi hb => by rw [BitVec.getLsbD_and, Bool.and_eq_true] at hb; exact hb.1) fun e => h ?_
  apply bv_ext
  intro i hi
  cases hb : (s &&& (s - 1#32)).getLsbD i with
  | false => simp
  | true =>
    exfalso
    have h1 := rest_sub s i hi hb
    rw [← e, BitVec.getLsbD_and, BitVec.getLsbD_not, hb] at h1
    simp at h1
theorem rest_low (s : S) : (s &&& (s - 1#32)) ||| (s &&& ~~~ (s &&& (s - 1#32))) = s := by
  apply bv_ext
  intro i hi
  rw [BitVec.getLsbD_or, BitVec.getLsbD_and (y := ~~~ (s &&& (s - 1#32))), BitVec.getLsbD_not]
  cases hb : (s &&& (s - 1#32)).getLsbD i with
  | true => rw [rest_sub s i hi hb]; rfl
  | false => simp [hi]
theorem fill_congr {α : Type} {N k : Nat} {z : α} {f g : Nat → α} (h : ∀ j, j < k → f j = g j) : fillL N z f k = fillL N z g k := by
  unfold fillL
  apply List.map_congr_left
  intro j _
  by_cases hj : j < k
  · rw [if_pos hj, if_pos hj, h j hj]
  · rw [if_neg hj, if_neg hj]
def putF (F : Nat → Value) (k : Nat) (v : Value) (j : Nat) : Value := if j = k then v else F j
theorem putF_same (F : Nat → Value) (k : Nat) (v : Value) : putF F k v k = v := if_pos rfl
theorem putF_less {F : Nat → Value} {k j : Nat} (v : Value) (h : j < k) : putF F k v j = F j := if_neg (by omega)
def pz0 : Value × Value := (.int .i64 0, .slice none 0 0)

set_option maxHeartbeats 6400000 in
set_option maxRecDepth 100000 in
theorem fclimb_any (t : T3) (av rv : Value) (w : World) (ht : RdT w av rv t) (hT : Tab w) (hE : fE t = 0) (hok : okT t) :
    Calls Tryz.prog 63 #[.agg #[.string t.1, av, rv]] w fun e w' => ∃ v', e = .returned (.agg #[.int .i64 (t.2.1.length : Int), v']) ∧ RdE encJ w' v' ((List.range (2 ^ t.2.1.length)).map fun k => rankN t.2.2 (BitVec.ofNat 32 k)) ∧ (∀ j, j < w.heap.size → FarV v' (some j)) ∧ Below w.heap.size w w' := by
  obtain ⟨hE1, hm10, hl200⟩ := fE_ok hE
  have hE2 := fE_tab hE
  have FI := fine_of hE2 hok
  have hb0 := below_alloc w (.cells #[.string t.1, av, rv] 48)
  have C3 := hid (fun W h => cells3 (w := w) (a := .string t.1) (b := av) (c := rv) (t := 48) W h)
  have T0 := hid (ht.below hb0)
  obtain ⟨w0, hw0⟩ : ∃ w0 : World, w.alloc (.cells #[.string t.1, av, rv] 48) = w0 := ⟨_, rfl⟩
  rw [hw0] at hb0 C3 T0
  have B0 := hid hb0
  have W0 := hid hw0
  have hsz0 := hb0.size
  clear hb0 hw0
  obtain ⟨z0, z1⟩ := cells2 (w := w0) (a := .int .i64 0) (b := .slice none 0 0) (t := 128) _ (Below.refl _ _)
  have zf : ∀ j, (w0.alloc (.cells #[.int .i64 0, .slice none 0 0] 128)).frozen? ⟨w0.heap.size, j, none⟩ = false := fun j => by simp
  have hb1 := below_alloc w0 (.cells #[.int .i64 0, .slice none 0 0] 128)
  obtain ⟨w1, hw1⟩ : ∃ w1 : World, w0.alloc (.cells #[.int .i64 0, .slice none 0 0] 128) = w1 := ⟨_, rfl⟩
  have hs1 : w1.heap.size = w0.heap.size + 1 := by rw [← hw1]; simp
  rw [hw1] at z0 z1 zf hb1
  have q0 : w0.heap.size = w.heap.size + 1 := by rw [← W0.out]; simp
  rw [q0] at z0 z1 zf hs1
  have HS1 := hid hs1
  have HZ := hid (And.intro z0 (And.intro z1 zf))
  have W1 := hid hw1
  have D1 := hid hb1
  have HT1 := hid ((hT.below B0.out).below hb1)
  have T1 := hid (T0.out.below hb1)
  have CC := hid (fun (W : World) (h : Below w1.heap.size w1 W) => And.intro (C3.out W (D1.out.trans (h.mono D1.out.size))) (And.intro ((h.cell (p := ⟨w.heap.size + 1, 0, none⟩) (by show w.heap.size + 1 < w1.heap.size; rw [HS1.out]; omega)).trans HZ.out.1) (And.intro ((h.cell (p := ⟨w.heap.size + 1, 1, none⟩) (by show w.heap.size + 1 < w1.heap.size; rw [HS1.out]; omega)).trans HZ.out.2.1) (And.intro ((h.frozen (p := ⟨w.heap.size + 1, 0, none⟩) (by show w.heap.size + 1 < w1.heap.size; rw [HS1.out]; omega)).trans (HZ.out.2.2 0)) ((h.frozen (p := ⟨w.heap.size + 1, 1, none⟩) (by show w.heap.size + 1 < w1.heap.size; rw [HS1.out]; omega)).trans (HZ.out.2.2 1))))))
  have OF := hid (fun (s : S) (hs : sub s (fullN t.2.1.length)) (W : World) (h : Below w1.heap.size w1 W) => pOf_any t av rv s W (T1.out.below h) (HT1.out.below h) hE2 hok hs)
  have HE2 := hid hE2
  obtain ⟨nm, ats, rs⟩ := t
  obtain ⟨ao, acap, hva, -⟩ := T1.out.1.split
  simp only at hva hm10 hl200 FI
  subst hva
  have FIN := hid FI
  have HL := hid hl200
  show Calls _ _ _ _ fun e w' => ∃ v', e = .returned (.agg #[.int .i64 (ats.length : Int), v']) ∧ RdE encJ w' v' ((List.range (2 ^ ats.length)).map fun k => rankN rs (BitVec.ofNat 32 k)) ∧ (∀ j, j < w.heap.size → FarV v' (some j)) ∧ Below w.heap.size w w'
  replace OF := hid (fun (s : S) (hs : sub s (fullN ats.length)) (W : World) (h : Below w1.heap.size w1 W) => OF.out s hs W h)
  obtain ⟨m, hm⟩ : ∃ m, ats.length = m := ⟨_, rfl⟩
  replace W0 := hid (show w.alloc (.cells #[.string nm, .slice ao m acap, rv] 48) = w0 by rw [← hm]; exact W0.out)
  rw [hm] at hm10 OF CC FIN ⊢
  have hN2 : 2 ^ m ≤ 2 ^ 16 := Nat.pow_le_pow_right (by omega) (by omega)
  have hw := fi64_pow (m := m) (by omega)
  have m0 : (0 : Int) ≤ (m : Int) := by omega
  have m1 : (m : Int) ≤ 31 := by omega
  have HB := hid (iv_bit (m := m) (by omega))
  obtain ⟨R, hR⟩ : ∃ R : Nat → Int, (fun k => rankN rs (BitVec.ofNat 32 k)) = R := ⟨_, rfl⟩
  have HR := hid (fun k => show R k = rankN rs (BitVec.ofNat 32 k) by rw [← hR])
  rw [hR]
  have SF := hid (fun (s : S) (h : s.toNat < 2 ^ m) => show sub s (fullN m) from sub_full_lt.2 h)
  obtain ⟨N, hN⟩ : ∃ N, 2 ^ m = N := ⟨_, rfl⟩
  rw [hN] at hN2 HB SF ⊢
  simp only [hN] at hw
  have HN := hid hN2
  obtain ⟨i0, hi, hz0, hz1, hz2⟩ := info_parts infoPJ
  have I0 := hid hi
  have I1 := hid hz0
  have I2 := hid hz1
  have I3 := hid (show i0.bytes * N ≤ 281474976710656 by rw [hz2]; omega)
  obtain ⟨p0, pi, pz0, pz1, pz2⟩ := info_parts infoPt
  have P0 := hid pi
  have P1 := hid pz0
  have P2 := hid pz1
  have P3 := hid (show p0.bytes * N ≤ 281474976710656 by rw [pz2]; omega)
  obtain ⟨⟨c0, c1, c2⟩, -⟩ := CC.out _ (Below.refl _ _)
  clear z0 z1 zf hb1 hw1 q0 hs1 hE hE1 hE2 hok ht hT hm hN hR FI hi hz0 hz1 hz2 pi pz0 pz1 pz2 hl200
  go_enter Tryz.func63, Tryz.ntmps63
  go_upto_region 1 with fail
  rw [W0.out, W1.out]
  go_wp2_with (at_make; refine wpList_make_full _ rfl _ _ 37 rfl w1.heap.size 3 i0 (.int .i64 0) 1 undPJ I0.out I1.out I2.out _ _ _ _ N rfl rfl (by simp) (by simp) I3.out (by have := HN.out; unfold maxLen; omega) (Nat.le_refl _) ?_)
  intro w2 hown hgrow
  have hb2 : Below w1.heap.size w1 w2 := ⟨hgrow.os, hgrow.tape, hgrow.output, hgrow.size, fun k hk => hgrow.block k hk (fun e => by cases e)⟩
  have H2 := hid hb2
  obtain ⟨rb, hrb⟩ : ∃ rb, w1.heap.size = rb := ⟨_, rfl⟩
  have O2 := hid (show w2.ownsRow rb 3 1 (.slice (some ⟨rb, 0, none⟩) N N) N ((fillL N 0 R 0).map encJ) by
    rw [← hrb, fillL_zero, List.map_replicate]
    first | exact hown | simpa [toList_madeCells_one, Value.cells, encJ] using hown)
  have HRB := hid hrb
  have HR2 := hid (O2.out.lt rb rfl).2
  rw [hrb]
  clear hown hgrow hb2 hrb c0 c1 c2
  have hb3 := below_alloc w2 (.cells #[.int .i64 (m : Int), .slice (some ⟨rb, 0, none⟩) N N] 128)
  have L3 := hid (fun (W : World) h => cells2 (w := w2) (a := .int .i64 (m : Int)) (b := .slice (some ⟨rb, 0, none⟩) N N) (t := 128) W h)
  obtain ⟨w3, hw3⟩ : ∃ w3 : World, w2.alloc (.cells #[.int .i64 (m : Int), .slice (some ⟨rb, 0, none⟩) N N] 128) = w3 := ⟨_, rfl⟩
  rw [hw3] at hb3 L3
  obtain ⟨lb, hlb⟩ : ∃ lb, w2.heap.size = lb := ⟨_, rfl⟩
  rw [hlb] at L3
  have hs3 : w3.heap.size = lb + 1 := by rw [← hw3, ← hlb]; simp
  have O3 := hid (own_below O2.out hb3)
  have H3 := hid (H2.out.trans (hb3.mono H2.out.size))
  have W3 := hid hw3
  obtain ⟨l0, l1⟩ := L3.out _ (Below.refl _ _)
  have HLB := hid hlb
  clear hb3 hw3
  go_upto_region 3 with fail
  rw [W3.out]
  go_wp2_with (at_make; refine wpList_make_full _ rfl _ _ 162 rfl w3.heap.size 165 p0 (.agg #[.int .i64 0, .slice none 0 0]) 2 undPts P0.out P1.out P2.out _ _ _ _ N rfl rfl (by simp) (by simp) P3.out (by have := HN.out; unfold maxLen; omega) (Nat.le_refl _) ?_)
  intro w4 hown hgrow
  have hb4 : Below w3.heap.size w3 w4 := ⟨hgrow.os, hgrow.tape, hgrow.output, hgrow.size, fun k hk => hgrow.block k hk (fun e => by cases e)⟩
  have H4 := hid (H3.out.trans (hb4.mono H3.out.size))
  try rw [hs3] at hown
  try rw [hs3] at hb4
  obtain ⟨pb, hpb⟩ : ∃ pb, lb + 1 = pb := ⟨_, rfl⟩
  rw [hpb] at hown hb4
  have OP4 := hid (show w4.ownsRow pb 165 2 (.slice (some ⟨pb, 0, none⟩) N N) N ((fillL N pz0 (fun j => ((Value.int .i64 (rs.length : Int)), .slice none 0 0)) 0).flatMap cPt) by
    rw [fillL_zero, flat_replicate2 (show cPt pz0 = [.int .i64 0, .slice none 0 0] from rfl), ← toList_madeCells_two]
    first | exact hown | simpa [Value.cells] using hown)
  have O4 := hid (own_below O3.out (by rw [hs3, hpb]; exact hb4))
  have L4 := hid (L3.out w4 (by rw [hs3, hpb]; exact hb4))
  have HP4 := hid (OP4.out.lt pb rfl).2
  have HPB := hid hpb
  have HRBL := hid (show rb < lb by have := HR2.out; omega)
  rw [hpb]
  clear hown hgrow hb4 hs3 hlb hpb l0 l1 O2 O3
  go_wp2_with fail
  go_loopw [21] (fun i wr => ∃ (k : Nat) (F : Nat → Value), k ≤ N ∧ i = .int .u32 (iv (BitVec.ofNat 32 k)) ∧ wr.ownsRow rb 3 1 (.slice (some ⟨rb, 0, none⟩) N N) N ((fillL N 0 R k).map encJ) ∧ wr.ownsRow pb 165 2 (.slice (some ⟨pb, 0, none⟩) N N) N ((fillL N pz0 (fun j => ((Value.int .i64 (rs.length : Int)), F j)) k).flatMap cPt) ∧ Hid (∀ j, j < k → PartOk wr (pb + 1) (F j) (clsK (keyOn rs (BitVec.ofNat 32 j)))) ∧ Hid (wr.cell? ⟨lb, 0, none⟩ = some (.int .i64 (m : Int)) ∧ wr.cell? ⟨lb, 1, none⟩ = some (.slice (some ⟨rb, 0, none⟩) N N)) ∧ Below rb w1 wr ∧ pb < wr.heap.size) (fun i _ => N - (intOf i).toNat)
  case atStart => exact ⟨0, fun _ => .slice none 0 0, Nat.zero_le _, rfl, O4.out, OP4.out, hid (fun j hj => by omega), L4, by rw [← HRB.out]; exact H4.out, HP4.out⟩
  case round =>
    obtain ⟨k, F, hk, rfl, hown, hparts, HF, HLL, hnx, hpw⟩ := hrel
    have hsz := hnx.size
    have hqn := HN.out
    have EQ := hid (iv_ofNat (q := k) (by omega))
    have B1W := hid (show Below w1.heap.size w1 wr by rw [HRB.out]; exact hnx)
    by_cases hlt : k < N
    · have c1 : iv (BitVec.ofNat 32 k) < iv (1#32 <<< m) := by rw [EQ.out, HB.out]; omega
      have NXT := hid (ofNat_succ k)
      have NXI := hid (iv_ofNat (q := k + 1) (by omega))
      have RK := hid (HR.out k)
      have HLT := hid hlt
      obtain ⟨s, hs⟩ : ∃ s, BitVec.ofNat 32 k = s := ⟨_, rfl⟩
      rw [hs] at EQ c1 NXT RK
      rw [hs]
      have SFN := hid (SF.out s (by rw [← hs, BitVec.toNat_ofNat, Nat.mod_eq_of_lt (by omega)]; exact hlt))
      have hkn : s.toNat = k := by rw [← hs, BitVec.toNat_ofNat, Nat.mod_eq_of_lt (by omega)]
      have HKN := hid hkn
      have NX2 := hid (show iv (s + 1#32) = ((k + 1 : Nat) : Int) by rw [NXT.out]; exact NXI.out)
      have hkq : k = (iv s).toNat := by have := EQ.out; omega
      have i1 := iv_nonneg' s
      have j1 : iv s < (N : Int) := by have := EQ.out; omega
      have HS := hid hs
      obtain ⟨⟨t0, t1, t2⟩, -⟩ := CC.out _ B1W.out
      clear hs hlt hk hqn hkn
      by_cases hz : s &&& (s - 1#32) = 0#32
      · have O0 := hid (OF.out s SFN.out wr B1W.out)
        have HO := hid hown
        have HPP := hid hparts
        have HNX := hid hnx
        have HPW := hid hpw
        clear hown hparts hnx hpw t0 t1 t2
        obtain ⟨⟨t0, t1, t2⟩, -⟩ := CC.out _ B1W.out
        go_wp2_with fail
        refine O0.out.mono ?_
        rintro e w5 ⟨v5, gs, rfl, hrd, hgm, hfg, hb5⟩
        clear t0 t1 t2
        have HO5 := hid (own_below HO.out hb5)
        have HP5 := hid (own_below HPP.out hb5)
        have NX5 := hid (HNX.out.trans (hb5.mono (by have := HNX.out.size; have := HRB.out; omega)))
        have HLL5 := hid (show w5.cell? ⟨lb, 0, none⟩ = some (.int .i64 (m : Int)) ∧ w5.cell? ⟨lb, 1, none⟩ = some (.slice (some ⟨rb, 0, none⟩) N N) from
          ⟨(hb5.cell (p := ⟨lb, 0, none⟩) (World.block_lt_of_cell? _ _ HLL.out.1)).trans HLL.out.1, (hb5.cell (p := ⟨lb, 1, none⟩) (World.block_lt_of_cell? _ _ HLL.out.2)).trans HLL.out.2⟩)
        have HF5 := hid (fun j (hj : j < k) => (HF.out j hj).below hb5)
        obtain ⟨o9, cap9, rfl⟩ := hrd.shape
        have PO5 := hid (show PartOk w5 (pb + 1) (.slice o9 gs.length cap9) (clsK (keyOn rs s)) from ⟨gs, hrd, hgm, fun j hj => hfg j (show j < wr.heap.size by have := HPW.out; omega)⟩)
        have f0 : w5.frozen? ⟨pb, (iv s).toNat * 2, none⟩ = false := HP5.out.frozenAt _
        have f1 : w5.frozen? ⟨pb, (iv s).toNat * 2 + 1, none⟩ = false := HP5.out.frozenAt _
        have hcA : w5.cell? ⟨pb, (iv s).toNat * 2, none⟩ = some (.int .i64 0) := by
          rw [← hkq, HP5.out.cellAt (k * 2) (by have := HLT.out; omega)]
          exact flat_at cPt_length _ k pz0 0 _ (by rw [fillL_at HLT.out, if_neg (by omega)]) rfl
        have hcB : w5.cell? ⟨pb, (iv s).toNat * 2 + 1, none⟩ = some (.slice none 0 0) := by
          rw [← hkq, HP5.out.cellAt (k * 2 + 1) (by have := HLT.out; omega)]
          exact flat_at cPt_length _ k pz0 1 _ (by rw [fillL_at HLT.out, if_neg (by omega)]) rfl
        obtain ⟨w6, hw6⟩ : ∃ w6 : World, (w5.setCell ⟨pb, (iv s).toNat * 2, none⟩ (Value.int .i64 (rs.length : Int))).setCell ⟨pb, (iv s).toNat * 2 + 1, none⟩ (.slice o9 gs.length cap9) = w6 := ⟨_, rfl⟩
        have hrp : rb ≠ pb := by have h1 := HRBL.out; have h2 := HPB.out; omega
        have hlp : lb ≠ pb := by have h2 := HPB.out; omega
        have HO6 := hid (show w6.ownsRow rb 3 1 (.slice (some ⟨rb, 0, none⟩) N N) N ((fillL N 0 R k).map encJ) by
          rw [← hw6]
          exact ownsRow_setCell_other (ownsRow_setCell_other HO5.out (by intro e; simp [Value.ownBlock] at e; exact hrp e) _) (by intro e; simp [Value.ownBlock] at e; exact hrp e) _)
        have ST1 := HP5.out.stored (k * 2) (Value.int .i64 (rs.length : Int))
        have ST2 := ST1.1.stored (k * 2 + 1) (.slice o9 gs.length cap9)
        have FS : ((((fillL N pz0 (fun j => ((Value.int .i64 (rs.length : Int)), F j)) k).flatMap cPt).set (k * 2) (Value.int .i64 (rs.length : Int))).set (k * 2 + 1) (.slice o9 gs.length cap9)) = (fillL N pz0 (fun j => ((Value.int .i64 (rs.length : Int)), putF F k (.slice o9 gs.length cap9) j)) (k + 1)).flatMap cPt := by
          rw [fill_congr (N := N) (z := pz0) (f := fun j => ((Value.int .i64 (rs.length : Int)), F j)) (g := fun j => ((Value.int .i64 (rs.length : Int)), putF F k (.slice o9 gs.length cap9) j)) (fun j hj => by rw [putF_less _ hj]),
            flat_set2 cPt_length _ k ((Value.int .i64 (rs.length : Int)), putF F k (.slice o9 gs.length cap9) k) (Value.int .i64 (rs.length : Int)) (.slice o9 gs.length cap9) (by rw [fillL_length]; exact HLT.out) (by rw [putF_same]; rfl)]
          exact congrArg (List.flatMap cPt) (fillL_set (N := N) (z := pz0) (f := fun j => ((Value.int .i64 (rs.length : Int)), putF F k (.slice o9 gs.length cap9) j)) (k := k))
        have HP6 := hid (show w6.ownsRow pb 165 2 (.slice (some ⟨pb, 0, none⟩) N N) N ((fillL N pz0 (fun j => ((Value.int .i64 (rs.length : Int)), putF F k (.slice o9 gs.length cap9) j)) (k + 1)).flatMap cPt) by
          rw [← FS, ← hw6, ← hkq]; exact ST2.1)
        have PS6 := hid (fun (v : Value) (cls : List (List Int)) (h : PartOk w5 (pb + 1) v cls) => show PartOk w6 (pb + 1) v cls by rw [← hw6]; exact (h.set (by omega) _ _).set (by omega) _ _)
        have HF6 := hid (fun j (hj : j < k + 1) => show PartOk w6 (pb + 1) (putF F k (.slice o9 gs.length cap9) j) (clsK (keyOn rs (BitVec.ofNat 32 j))) by
          by_cases e : j = k
          · subst e; rw [putF_same, HS.out]; exact PS6.out _ _ PO5.out
          · rw [putF_less _ (by omega)]; exact PS6.out _ _ (HF5.out j (by omega)))
        have HLL6 := hid (show w6.cell? ⟨lb, 0, none⟩ = some (.int .i64 (m : Int)) ∧ w6.cell? ⟨lb, 1, none⟩ = some (.slice (some ⟨rb, 0, none⟩) N N) by
          rw [← hw6, World.cell?_setCell_other _ _ _ _ (by simp), World.cell?_setCell_other _ _ _ _ (by simp), World.cell?_setCell_other _ _ _ _ (by simp), World.cell?_setCell_other _ _ _ _ (by simp)]
          exact HLL5.out)
        have NX6 := hid (show Below rb w1 w6 by rw [← hw6]; exact (NX5.out.setCell (p := ⟨pb, (iv s).toNat * 2, none⟩) (by show rb ≤ pb; have h1 := HRBL.out; have h2 := HPB.out; omega) _).setCell (p := ⟨pb, (iv s).toNat * 2 + 1, none⟩) (by show rb ≤ pb; have h1 := HRBL.out; have h2 := HPB.out; omega) _)
        have PW6 := hid (show pb < w6.heap.size by rw [← hw6]; simp; have := HPW.out; have := hb5.size; omega)
        have W6 := hid hw6
        clear ST1 ST2 FS hb5 hrd hgm hfg hw6 hrp hlp
        go_upto_region 11 with fail
        rw [W6.out]
        have PO6 := PS6.out _ _ PO5.out
        obtain ⟨gs6, hg1, hg2, hg3⟩ := PO6
        obtain ⟨o6, cap6, hv6⟩ := hg1.shape
        simp only [Value.slice.injEq] at hv6
        obtain ⟨rfl, hgl, rfl⟩ := hv6
        have okq : okQ rs.length (gs6.map (·.2)) := by rw [hg2]; have := cls_okQ (ks := keyOn rs s) (by rw [keyOn_length]; have := HL.out; omega); rwa [keyOn_length] at this
        have RKE := hid (show rankP rs.length (gs6.map (·.2)) = R k by rw [RK.out, hg2]; rfl)
        have RK1 := hid (fun (W : World) (h : Below w6.heap.size w6 W) => prank_any rs.length gs6 _ W (hg1.below h) okq)
        rw [RKE.out] at RK1
        have d0 : w6.cell? ⟨pb, (iv s).toNat * 2, none⟩ = some (.int .i64 (rs.length : Int)) := by
          rw [← hkq, HP6.out.cellAt (k * 2) (by have := HLT.out; omega)]
          exact flat_at cPt_length _ k (Value.int .i64 (rs.length : Int), putF F k (.slice o9 gs.length cap9) k) 0 _ (by rw [fillL_at HLT.out, if_pos (by omega)]) rfl
        have d1 : w6.cell? ⟨pb, (iv s).toNat * 2 + 1, none⟩ = some (.slice o9 gs.length cap9) := by
          rw [← hkq, HP6.out.cellAt (k * 2 + 1) (by have := HLT.out; omega)]
          exact flat_at cPt_length _ k (Value.int .i64 (rs.length : Int), putF F k (.slice o9 gs.length cap9) k) 1 _ (by rw [fillL_at HLT.out, if_pos (by omega)]) (by rw [putF_same]; rfl)
        have d2 : w6.cell? ⟨rb, (iv s).toNat, none⟩ = some (.int .i64 0) := by
          rw [← hkq, HO6.out.cellAt k (by have := HLT.out; omega), List.getElem?_map, fillL_at HLT.out, if_neg (by omega)]; rfl
        have d3 : w6.frozen? ⟨rb, (iv s).toNat, none⟩ = false := HO6.out.frozenAt _
        have hr6 : rb < w6.heap.size := by have h1 := HRBL.out; have h2 := HPB.out; have := PW6.out; omega
        have hl6 : lb < w6.heap.size := by have h2 := HPB.out; have := PW6.out; omega
        have CW := hid (fun (W : World) (h : Below w6.heap.size w6 W) => show (W.cell? ⟨lb, 0, none⟩ = some (.int .i64 (m : Int)) ∧ W.cell? ⟨lb, 1, none⟩ = some (.slice (some ⟨rb, 0, none⟩) N N)) ∧ (W.cell? ⟨pb, (iv s).toNat * 2, none⟩ = some (.int .i64 (rs.length : Int)) ∧ W.cell? ⟨pb, (iv s).toNat * 2 + 1, none⟩ = some (.slice o9 gs.length cap9)) ∧ (W.cell? ⟨rb, (iv s).toNat, none⟩ = some (.int .i64 0) ∧ W.frozen? ⟨rb, (iv s).toNat, none⟩ = false) from
          ⟨⟨(h.cell (p := ⟨lb, 0, none⟩) hl6).trans HLL6.out.1, (h.cell (p := ⟨lb, 1, none⟩) hl6).trans HLL6.out.2⟩, ⟨(h.cell (p := ⟨pb, (iv s).toNat * 2, none⟩) PW6.out).trans d0, (h.cell (p := ⟨pb, (iv s).toNat * 2 + 1, none⟩) PW6.out).trans d1⟩, ⟨(h.cell (p := ⟨rb, (iv s).toNat, none⟩) hr6).trans d2, (h.frozen (p := ⟨rb, (iv s).toNat, none⟩) hr6).trans d3⟩⟩)
        obtain ⟨l0, l1⟩ := HLL6.out
        have HR6 := hid hr6
        clear hg1 hg2 hg3 okq hr6 hl6 hgl PO5 PS6 HF5 HLL5 NX5 HP5 HO5 f0 f1 hcA hcB
        go_region_law ((go_simp; go_at_call 96; with_reducible refine (RK1.out _ (Below.refl w6.heap.size w6).drew).mono ?_; rintro e w7 ⟨rfl, hb7⟩; have hL := (Below.refl w6.heap.size w6).drew.trans (hb7.mono (Nat.le_refl _)); obtain ⟨⟨x0, x1⟩, ⟨x2, x3⟩, x4, x5⟩ := CW.out _ hL; have BL7 := hid hL; clear hb7 hL))
        all_goals
          have hlr : lb ≠ rb := by have := HRBL.out; omega
          have ST := (own_below HO6.out BL7.out).stored k (.int .i64 (R k))
          have e8 : ((fillL N 0 R k).map encJ).set k (.int .i64 (R k)) = (fillL N 0 R (k + 1)).map encJ := by rw [← fillL_set, List.map_set]; rfl
          rw [e8] at ST
          have S8 := hid (show (w7.setCell ⟨rb, (iv s).toNat, none⟩ (.int .i64 (R (iv s).toNat))).ownsRow rb 3 1 (.slice (some ⟨rb, 0, none⟩) N N) N ((fillL N 0 R (k + 1)).map encJ) by rw [← hkq]; exact ST.1)
          have hpr : pb ≠ rb := by have h1 := HRBL.out; have h2 := HPB.out; omega
          have P8 := hid (show (w7.setCell ⟨rb, (iv s).toNat, none⟩ (.int .i64 (R (iv s).toNat))).ownsRow pb 165 2 (.slice (some ⟨pb, 0, none⟩) N N) N ((fillL N pz0 (fun j => (Value.int .i64 (rs.length : Int), putF F k (.slice o9 gs.length cap9) j)) (k + 1)).flatMap cPt) from ownsRow_setCell_other (own_below HP6.out BL7.out) (by intro e; simp [Value.ownBlock] at e; exact hpr e) _)
          have F8 := hid (fun j (hj : j < k + 1) => ((HF6.out j hj).below BL7.out).set (b := rb) (by have h1 := HRBL.out; have h2 := HPB.out; omega) (iv s).toNat (.int .i64 (R (iv s).toNat)))
          have L8 := hid (show (w7.setCell ⟨rb, (iv s).toNat, none⟩ (.int .i64 (R (iv s).toNat))).cell? ⟨lb, 0, none⟩ = some (.int .i64 (m : Int)) ∧ (w7.setCell ⟨rb, (iv s).toNat, none⟩ (.int .i64 (R (iv s).toNat))).cell? ⟨lb, 1, none⟩ = some (.slice (some ⟨rb, 0, none⟩) N N) by
            rw [World.cell?_setCell_other _ _ _ _ (by first | (simp; done) | (simp; exact fun e => absurd e hlr)), World.cell?_setCell_other _ _ _ _ (by first | (simp; done) | (simp; exact fun e => absurd e hlr))]
            exact ⟨x0, x1⟩)
          have N8 := hid ((NX6.out.trans (BL7.out.mono (Nat.le_of_lt HR6.out))).setCell (p := ⟨rb, (iv s).toNat, none⟩) (Nat.le_refl _) (.int .i64 (R (iv s).toNat)))
          have W8 := hid (show pb < (w7.setCell ⟨rb, (iv s).toNat, none⟩ (.int .i64 (R (iv s).toNat))).heap.size by simp; have h1 := PW6.out; have h2 := BL7.out.size; omega)
          have KQ := hid hkq
          clear ST e8 hlr hpr x0 x1 x2 x3 x4 x5 d0 d1 d2 d3 l0 l1
          try go_wp2_with fail
          go_roundw
          case rel => exact ⟨k + 1, putF F k (.slice o9 gs.length cap9), by have := HLT.out; omega, by rw [← NXT.out], S8.out, P8.out, hid F8.out, hid L8.out, N8.out, W8.out⟩
          case measure =>
            have h1 := HLT.out
            have h2 := EQ.out
            have h3 := NX2.out
            simp [intOf]; omega
      · have HPP := hid hparts
        have HO := hid hown
        have HNX := hid hnx
        have HPW := hid hpw
        obtain ⟨r, hr⟩ : ∃ r, s &&& (s - 1#32) = r := ⟨_, rfl⟩
        have hs0 : s ≠ 0#32 := fun e => hz (by rw [e]; rfl)
        have l1 := rest_lt hs0
        have l2 := low_lt hz
        have l3 := rest_low s
        have hrz : (iv r == 0) = false := by
          rw [beq_eq_false_iff_ne, ← hr]
          intro e
          exact hz (BitVec.eq_of_toNat_eq (by unfold iv at e; simpa using e))
        rw [hr] at l1 l2 l3
        obtain ⟨g, hg⟩ : ∃ g, s &&& ~~~ r = g := ⟨_, rfl⟩
        rw [hg] at l2 l3
        have hsk := HKN.out
        have PA := HF.out r.toNat (by omega)
        have PB := HF.out g.toNat (by omega)
        rw [BitVec.ofNat_toNat, BitVec.setWidth_eq] at PA PB
        have SR := hid (show sub r (fullN m) from SF.out r (by have := HLT.out; omega))
        have SG := hid (show sub g (fullN m) from SF.out g (by have := HLT.out; omega))
        obtain ⟨gsa, a1, a2, a3⟩ := PA
        obtain ⟨gsb, b1, b2, b3⟩ := PB
        obtain ⟨oa, capa, hva⟩ := a1.shape
        obtain ⟨ob, capb, hvb⟩ := b1.shape
        have i2 := iv_nonneg' r
        have i3 := iv_nonneg' g
        have hrk : r.toNat = (iv r).toNat := (iv_toNat' r).symm
        have hgk : g.toNat = (iv g).toNat := (iv_toNat' g).symm
        have j2 : iv r < (N : Int) := by unfold iv; have := HLT.out; omega
        have j3 : iv g < (N : Int) := by unfold iv; have := HLT.out; omega
        have ca0 : wr.cell? ⟨pb, (iv r).toNat * 2, none⟩ = some (.int .i64 (rs.length : Int)) := by
          rw [← hrk, HPP.out.cellAt (r.toNat * 2) (by have := HLT.out; omega)]
          exact flat_at cPt_length _ r.toNat (Value.int .i64 (rs.length : Int), F r.toNat) 0 _ (by rw [fillL_at (by have := HLT.out; omega), if_pos (by omega)]) rfl
        have ca1 : wr.cell? ⟨pb, (iv r).toNat * 2 + 1, none⟩ = some (.slice oa gsa.length capa) := by
          rw [← hrk, HPP.out.cellAt (r.toNat * 2 + 1) (by have := HLT.out; omega), ← hva]
          exact flat_at cPt_length _ r.toNat (Value.int .i64 (rs.length : Int), F r.toNat) 1 _ (by rw [fillL_at (by have := HLT.out; omega), if_pos (by omega)]) rfl
        have cb0 : wr.cell? ⟨pb, (iv g).toNat * 2, none⟩ = some (.int .i64 (rs.length : Int)) := by
          rw [← hgk, HPP.out.cellAt (g.toNat * 2) (by have := HLT.out; omega)]
          exact flat_at cPt_length _ g.toNat (Value.int .i64 (rs.length : Int), F g.toNat) 0 _ (by rw [fillL_at (by have := HLT.out; omega), if_pos (by omega)]) rfl
        have cb1 : wr.cell? ⟨pb, (iv g).toNat * 2 + 1, none⟩ = some (.slice ob gsb.length capb) := by
          rw [← hgk, HPP.out.cellAt (g.toNat * 2 + 1) (by have := HLT.out; omega), ← hvb]
          exact flat_at cPt_length _ g.toNat (Value.int .i64 (rs.length : Int), F g.toNat) 1 _ (by rw [fillL_at (by have := HLT.out; omega), if_pos (by omega)]) rfl
        have hcA0 : wr.cell? ⟨pb, (iv s).toNat * 2, none⟩ = some (.int .i64 0) := by
          rw [← hkq, HPP.out.cellAt (k * 2) (by have := HLT.out; omega)]
          exact flat_at cPt_length _ k pz0 0 _ (by rw [fillL_at HLT.out, if_neg (by omega)]) rfl
        have hcB0 : wr.cell? ⟨pb, (iv s).toNat * 2 + 1, none⟩ = some (.slice none 0 0) := by
          rw [← hkq, HPP.out.cellAt (k * 2 + 1) (by have := HLT.out; omega)]
          exact flat_at cPt_length _ k pz0 1 _ (by rw [fillL_at HLT.out, if_neg (by omega)]) rfl
        have hf0 : ∀ j, wr.frozen? ⟨pb, j, none⟩ = false := fun j => HPP.out.frozenAt _
        have oka : okQ rs.length (gsa.map (·.2)) := by rw [a2]; have := cls_okQ (ks := keyOn rs r) (by rw [keyOn_length]; have := HL.out; omega); rwa [keyOn_length] at this
        have okb : okQ rs.length (gsb.map (·.2)) := by rw [b2]; have := cls_okQ (ks := keyOn rs g) (by rw [keyOn_length]; have := HL.out; omega); rwa [keyOn_length] at this
        rw [hva] at a1
        rw [hvb] at b1
        have PQ := hid (fun (W : World) (h : Below wr.heap.size wr W) => pprod_any rs.length gsa gsb _ _ W (a1.below h) (b1.below h) oka okb)
        have PQE := hid (show clsK (pairL rs.length (gsa.map (·.2)) (gsb.map (·.2))) = clsK (keyOn rs s) by rw [a2, b2, prod_keys FIN.out (by have := HL.out; omega) SR.out SG.out, l3])
        rw [PQE.out] at PQ
        have CV := hid (fun (W : World) (h : Below wr.heap.size wr W) => show (W.cell? ⟨pb, (iv r).toNat * 2, none⟩ = some (.int .i64 (rs.length : Int)) ∧ W.cell? ⟨pb, (iv r).toNat * 2 + 1, none⟩ = some (.slice oa gsa.length capa)) ∧ (W.cell? ⟨pb, (iv g).toNat * 2, none⟩ = some (.int .i64 (rs.length : Int)) ∧ W.cell? ⟨pb, (iv g).toNat * 2 + 1, none⟩ = some (.slice ob gsb.length capb)) ∧ (W.cell? ⟨pb, (iv s).toNat * 2, none⟩ = some (.int .i64 0) ∧ W.cell? ⟨pb, (iv s).toNat * 2 + 1, none⟩ = some (.slice none 0 0)) ∧ (W.frozen? ⟨pb, (iv s).toNat * 2, none⟩ = false ∧ W.frozen? ⟨pb, (iv s).toNat * 2 + 1, none⟩ = false) from
          ⟨⟨(h.cell (p := ⟨pb, _, none⟩) HPW.out).trans ca0, (h.cell (p := ⟨pb, _, none⟩) HPW.out).trans ca1⟩, ⟨(h.cell (p := ⟨pb, _, none⟩) HPW.out).trans cb0, (h.cell (p := ⟨pb, _, none⟩) HPW.out).trans cb1⟩, ⟨(h.cell (p := ⟨pb, _, none⟩) HPW.out).trans hcA0, (h.cell (p := ⟨pb, _, none⟩) HPW.out).trans hcB0⟩, ⟨(h.frozen (p := ⟨pb, _, none⟩) HPW.out).trans (hf0 _), (h.frozen (p := ⟨pb, _, none⟩) HPW.out).trans (hf0 _)⟩⟩)
        clear hparts hown hnx hpw hz hs0 l1 l2 l3 hsk a1 a2 a3 b1 b2 b3 oka okb hrk hgk hva hvb hf0 t0 t1 t2 i1
        have i1 := iv_nonneg' s
        go_upto_region 8 with fail
        go_region_law ((go_simp; go_at_call 95; with_reducible refine (PQ.out _ (Below.refl wr.heap.size wr).drew).mono ?_; rintro e w5 ⟨v5, gs, rfl, hrd, hgm, hfg, hb5'⟩; have hb5 := (Below.refl wr.heap.size wr).drew.trans (hb5'.mono (Nat.le_refl _)); obtain ⟨⟨y0, y1⟩, ⟨y2, y3⟩, ⟨y4, y5⟩, y6, y7⟩ := CV.out _ hb5; obtain ⟨o9, cap9, hv9⟩ := hrd.shape; subst hv9; clear hb5'))
        clear y0 y1 y2 y3 y4 y5 y6 y7 ca0 ca1 cb0 cb1 hcA0 hcB0
        all_goals
          have HO5 := hid (own_below HO.out hb5)
          have HP5 := hid (own_below HPP.out hb5)
          have NX5 := hid (HNX.out.trans (hb5.mono (by have := HNX.out.size; have := HRB.out; omega)))
          have HLL5 := hid (show w5.cell? ⟨lb, 0, none⟩ = some (.int .i64 (m : Int)) ∧ w5.cell? ⟨lb, 1, none⟩ = some (.slice (some ⟨rb, 0, none⟩) N N) from
            ⟨(hb5.cell (p := ⟨lb, 0, none⟩) (World.block_lt_of_cell? _ _ HLL.out.1)).trans HLL.out.1, (hb5.cell (p := ⟨lb, 1, none⟩) (World.block_lt_of_cell? _ _ HLL.out.2)).trans HLL.out.2⟩)
          have HF5 := hid (fun j (hj : j < k) => (HF.out j hj).below hb5)
          have PO5 := hid (show PartOk w5 (pb + 1) (.slice o9 gs.length cap9) (clsK (keyOn rs s)) from ⟨gs, hrd, hgm, fun j hj => hfg j (show j < wr.heap.size by have := HPW.out; omega)⟩)
          have f0 : w5.frozen? ⟨pb, (iv s).toNat * 2, none⟩ = false := HP5.out.frozenAt _
          have f1 : w5.frozen? ⟨pb, (iv s).toNat * 2 + 1, none⟩ = false := HP5.out.frozenAt _
          have hcA : w5.cell? ⟨pb, (iv s).toNat * 2, none⟩ = some (.int .i64 0) := by
            rw [← hkq, HP5.out.cellAt (k * 2) (by have := HLT.out; omega)]
            exact flat_at cPt_length _ k pz0 0 _ (by rw [fillL_at HLT.out, if_neg (by omega)]) rfl
          have hcB : w5.cell? ⟨pb, (iv s).toNat * 2 + 1, none⟩ = some (.slice none 0 0) := by
            rw [← hkq, HP5.out.cellAt (k * 2 + 1) (by have := HLT.out; omega)]
            exact flat_at cPt_length _ k pz0 1 _ (by rw [fillL_at HLT.out, if_neg (by omega)]) rfl
          obtain ⟨w6, hw6⟩ : ∃ w6 : World, (w5.setCell ⟨pb, (iv s).toNat * 2, none⟩ (Value.int .i64 (rs.length : Int))).setCell ⟨pb, (iv s).toNat * 2 + 1, none⟩ (.slice o9 gs.length cap9) = w6 := ⟨_, rfl⟩
          have hrp : rb ≠ pb := by have h1 := HRBL.out; have h2 := HPB.out; omega
          have hlp : lb ≠ pb := by have h2 := HPB.out; omega
          have HO6 := hid (show w6.ownsRow rb 3 1 (.slice (some ⟨rb, 0, none⟩) N N) N ((fillL N 0 R k).map encJ) by
            rw [← hw6]
            exact ownsRow_setCell_other (ownsRow_setCell_other HO5.out (by intro e; simp [Value.ownBlock] at e; exact hrp e) _) (by intro e; simp [Value.ownBlock] at e; exact hrp e) _)
          have ST1 := HP5.out.stored (k * 2) (Value.int .i64 (rs.length : Int))
          have ST2 := ST1.1.stored (k * 2 + 1) (.slice o9 gs.length cap9)
          have FS : ((((fillL N pz0 (fun j => ((Value.int .i64 (rs.length : Int)), F j)) k).flatMap cPt).set (k * 2) (Value.int .i64 (rs.length : Int))).set (k * 2 + 1) (.slice o9 gs.length cap9)) = (fillL N pz0 (fun j => ((Value.int .i64 (rs.length : Int)), putF F k (.slice o9 gs.length cap9) j)) (k + 1)).flatMap cPt := by
            rw [fill_congr (N := N) (z := pz0) (f := fun j => ((Value.int .i64 (rs.length : Int)), F j)) (g := fun j => ((Value.int .i64 (rs.length : Int)), putF F k (.slice o9 gs.length cap9) j)) (fun j hj => by rw [putF_less _ hj]),
              flat_set2 cPt_length _ k ((Value.int .i64 (rs.length : Int)), putF F k (.slice o9 gs.length cap9) k) (Value.int .i64 (rs.length : Int)) (.slice o9 gs.length cap9) (by rw [fillL_length]; exact HLT.out) (by rw [putF_same]; rfl)]
            exact congrArg (List.flatMap cPt) (fillL_set (N := N) (z := pz0) (f := fun j => ((Value.int .i64 (rs.length : Int)), putF F k (.slice o9 gs.length cap9) j)) (k := k))
          have HP6 := hid (show w6.ownsRow pb 165 2 (.slice (some ⟨pb, 0, none⟩) N N) N ((fillL N pz0 (fun j => ((Value.int .i64 (rs.length : Int)), putF F k (.slice o9 gs.length cap9) j)) (k + 1)).flatMap cPt) by
            rw [← FS, ← hw6, ← hkq]; exact ST2.1)
          have PS6 := hid (fun (v : Value) (cls : List (List Int)) (h : PartOk w5 (pb + 1) v cls) => show PartOk w6 (pb + 1) v cls by rw [← hw6]; exact (h.set (by omega) _ _).set (by omega) _ _)
          have HF6 := hid (fun j (hj : j < k + 1) => show PartOk w6 (pb + 1) (putF F k (.slice o9 gs.length cap9) j) (clsK (keyOn rs (BitVec.ofNat 32 j))) by
            by_cases e : j = k
            · subst e; rw [putF_same, HS.out]; exact PS6.out _ _ PO5.out
            · rw [putF_less _ (by omega)]; exact PS6.out _ _ (HF5.out j (by omega)))
          have HLL6 := hid (show w6.cell? ⟨lb, 0, none⟩ = some (.int .i64 (m : Int)) ∧ w6.cell? ⟨lb, 1, none⟩ = some (.slice (some ⟨rb, 0, none⟩) N N) by
            rw [← hw6, World.cell?_setCell_other _ _ _ _ (by simp), World.cell?_setCell_other _ _ _ _ (by simp), World.cell?_setCell_other _ _ _ _ (by simp), World.cell?_setCell_other _ _ _ _ (by simp)]
            exact HLL5.out)
          have NX6 := hid (show Below rb w1 w6 by rw [← hw6]; exact (NX5.out.setCell (p := ⟨pb, (iv s).toNat * 2, none⟩) (by show rb ≤ pb; have h1 := HRBL.out; have h2 := HPB.out; omega) _).setCell (p := ⟨pb, (iv s).toNat * 2 + 1, none⟩) (by show rb ≤ pb; have h1 := HRBL.out; have h2 := HPB.out; omega) _)
          have PW6 := hid (show pb < w6.heap.size by rw [← hw6]; simp; have := HPW.out; have := hb5.size; omega)
          have W6 := hid hw6
          clear ST1 ST2 FS hb5 hrd hgm hfg hw6 hrp hlp
          go_upto_region 11 with fail
          rw [W6.out]
          have PO6 := PS6.out _ _ PO5.out
          obtain ⟨gs6, hg1, hg2, hg3⟩ := PO6
          obtain ⟨o6, cap6, hv6⟩ := hg1.shape
          simp only [Value.slice.injEq] at hv6
          obtain ⟨rfl, hgl, rfl⟩ := hv6
          have okq : okQ rs.length (gs6.map (·.2)) := by rw [hg2]; have := cls_okQ (ks := keyOn rs s) (by rw [keyOn_length]; have := HL.out; omega); rwa [keyOn_length] at this
          have RKE := hid (show rankP rs.length (gs6.map (·.2)) = R k by rw [RK.out, hg2]; rfl)
          have RK1 := hid (fun (W : World) (h : Below w6.heap.size w6 W) => prank_any rs.length gs6 _ W (hg1.below h) okq)
          rw [RKE.out] at RK1
          have d0 : w6.cell? ⟨pb, (iv s).toNat * 2, none⟩ = some (.int .i64 (rs.length : Int)) := by
            rw [← hkq, HP6.out.cellAt (k * 2) (by have := HLT.out; omega)]
            exact flat_at cPt_length _ k (Value.int .i64 (rs.length : Int), putF F k (.slice o9 gs.length cap9) k) 0 _ (by rw [fillL_at HLT.out, if_pos (by omega)]) rfl
          have d1 : w6.cell? ⟨pb, (iv s).toNat * 2 + 1, none⟩ = some (.slice o9 gs.length cap9) := by
            rw [← hkq, HP6.out.cellAt (k * 2 + 1) (by have := HLT.out; omega)]
            exact flat_at cPt_length _ k (Value.int .i64 (rs.length : Int), putF F k (.slice o9 gs.length cap9) k) 1 _ (by rw [fillL_at HLT.out, if_pos (by omega)]) (by rw [putF_same]; rfl)
          have d2 : w6.cell? ⟨rb, (iv s).toNat, none⟩ = some (.int .i64 0) := by
            rw [← hkq, HO6.out.cellAt k (by have := HLT.out; omega), List.getElem?_map, fillL_at HLT.out, if_neg (by omega)]; rfl
          have d3 : w6.frozen? ⟨rb, (iv s).toNat, none⟩ = false := HO6.out.frozenAt _
          have hr6 : rb < w6.heap.size := by have h1 := HRBL.out; have h2 := HPB.out; have := PW6.out; omega
          have hl6 : lb < w6.heap.size := by have h2 := HPB.out; have := PW6.out; omega
          have CW := hid (fun (W : World) (h : Below w6.heap.size w6 W) => show (W.cell? ⟨lb, 0, none⟩ = some (.int .i64 (m : Int)) ∧ W.cell? ⟨lb, 1, none⟩ = some (.slice (some ⟨rb, 0, none⟩) N N)) ∧ (W.cell? ⟨pb, (iv s).toNat * 2, none⟩ = some (.int .i64 (rs.length : Int)) ∧ W.cell? ⟨pb, (iv s).toNat * 2 + 1, none⟩ = some (.slice o9 gs.length cap9)) ∧ (W.cell? ⟨rb, (iv s).toNat, none⟩ = some (.int .i64 0) ∧ W.frozen? ⟨rb, (iv s).toNat, none⟩ = false) from
            ⟨⟨(h.cell (p := ⟨lb, 0, none⟩) hl6).trans HLL6.out.1, (h.cell (p := ⟨lb, 1, none⟩) hl6).trans HLL6.out.2⟩, ⟨(h.cell (p := ⟨pb, (iv s).toNat * 2, none⟩) PW6.out).trans d0, (h.cell (p := ⟨pb, (iv s).toNat * 2 + 1, none⟩) PW6.out).trans d1⟩, ⟨(h.cell (p := ⟨rb, (iv s).toNat, none⟩) hr6).trans d2, (h.frozen (p := ⟨rb, (iv s).toNat, none⟩) hr6).trans d3⟩⟩)
          obtain ⟨l0, l1⟩ := HLL6.out
          have HR6 := hid hr6
          clear hg1 hg2 hg3 okq hr6 hl6 hgl PO5 PS6 HF5 HLL5 NX5 HP5 HO5 f0 f1 hcA hcB
          go_region_law ((go_simp; go_at_call 96; with_reducible refine (RK1.out _ (Below.refl w6.heap.size w6).drew).mono ?_; rintro e w7 ⟨rfl, hb7⟩; have hL := (Below.refl w6.heap.size w6).drew.trans (hb7.mono (Nat.le_refl _)); obtain ⟨⟨x0, x1⟩, ⟨x2, x3⟩, x4, x5⟩ := CW.out _ hL; have BL7 := hid hL; clear hb7 hL))
          all_goals
            have hlr : lb ≠ rb := by have := HRBL.out; omega
            have ST := (own_below HO6.out BL7.out).stored k (.int .i64 (R k))
            have e8 : ((fillL N 0 R k).map encJ).set k (.int .i64 (R k)) = (fillL N 0 R (k + 1)).map encJ := by rw [← fillL_set, List.map_set]; rfl
            rw [e8] at ST
            have S8 := hid (show (w7.setCell ⟨rb, (iv s).toNat, none⟩ (.int .i64 (R (iv s).toNat))).ownsRow rb 3 1 (.slice (some ⟨rb, 0, none⟩) N N) N ((fillL N 0 R (k + 1)).map encJ) by rw [← hkq]; exact ST.1)
            have hpr : pb ≠ rb := by have h1 := HRBL.out; have h2 := HPB.out; omega
            have P8 := hid (show (w7.setCell ⟨rb, (iv s).toNat, none⟩ (.int .i64 (R (iv s).toNat))).ownsRow pb 165 2 (.slice (some ⟨pb, 0, none⟩) N N) N ((fillL N pz0 (fun j => (Value.int .i64 (rs.length : Int), putF F k (.slice o9 gs.length cap9) j)) (k + 1)).flatMap cPt) from ownsRow_setCell_other (own_below HP6.out BL7.out) (by intro e; simp [Value.ownBlock] at e; exact hpr e) _)
            have F8 := hid (fun j (hj : j < k + 1) => ((HF6.out j hj).below BL7.out).set (b := rb) (by have h1 := HRBL.out; have h2 := HPB.out; omega) (iv s).toNat (.int .i64 (R (iv s).toNat)))
            have L8 := hid (show (w7.setCell ⟨rb, (iv s).toNat, none⟩ (.int .i64 (R (iv s).toNat))).cell? ⟨lb, 0, none⟩ = some (.int .i64 (m : Int)) ∧ (w7.setCell ⟨rb, (iv s).toNat, none⟩ (.int .i64 (R (iv s).toNat))).cell? ⟨lb, 1, none⟩ = some (.slice (some ⟨rb, 0, none⟩) N N) by
              rw [World.cell?_setCell_other _ _ _ _ (by first | (simp; done) | (simp; exact fun e => absurd e hlr)), World.cell?_setCell_other _ _ _ _ (by first | (simp; done) | (simp; exact fun e => absurd e hlr))]
              exact ⟨x0, x1⟩)
            have N8 := hid ((NX6.out.trans (BL7.out.mono (Nat.le_of_lt HR6.out))).setCell (p := ⟨rb, (iv s).toNat, none⟩) (Nat.le_refl _) (.int .i64 (R (iv s).toNat)))
            have W8 := hid (show pb < (w7.setCell ⟨rb, (iv s).toNat, none⟩ (.int .i64 (R (iv s).toNat))).heap.size by simp; have h1 := PW6.out; have h2 := BL7.out.size; omega)
            have KQ := hid hkq
            clear ST e8 hlr hpr x0 x1 x2 x3 x4 x5 d0 d1 d2 d3 l0 l1
            try go_wp2_with fail
            go_roundw
            case rel => exact ⟨k + 1, putF F k (.slice o9 gs.length cap9), by have := HLT.out; omega, by rw [← NXT.out], S8.out, P8.out, hid F8.out, hid L8.out, N8.out, W8.out⟩
            case measure =>
              have h1 := HLT.out
              have h2 := EQ.out
              have h3 := NX2.out
              simp [intOf]; omega
    · have c1 : ¬ iv (BitVec.ofNat 32 k) < iv (1#32 <<< m) := by rw [EQ.out, HB.out]; omega
      have hke : N ≤ k := by omega
      rw [fillL_all hke] at hown
      obtain ⟨-, zz0, zz1, zf0, zf1⟩ := CC.out _ B1W.out
      obtain ⟨l0, l1⟩ := HLL.out
      have hne : w.heap.size + 1 ≠ rb := by have h1 := HRB.out; have h2 := HS1.out; omega
      obtain ⟨wf, hwf⟩ : ∃ wf : World, (wr.setCell ⟨w.heap.size + 1, 0, none⟩ (.int .i64 (m : Int))).setCell ⟨w.heap.size + 1, 1, none⟩ (.slice (some ⟨rb, 0, none⟩) N N) = wf := ⟨_, rfl⟩
      have r := set2p zz0 zz1 hwf
      have QO : wf.ownsRow rb 3 1 (.slice (some ⟨rb, 0, none⟩) N N) N (((List.range N).map R).map encJ) := by
        rw [← hwf]
        exact ownsRow_setCell_other (ownsRow_setCell_other hown (by intro e; simp [Value.ownBlock] at e; exact hne e.symm) _) (by intro e; simp [Value.ownBlock] at e; exact hne e.symm) _
      have QR := hid (show RdE encJ wf (.slice (some ⟨rb, 0, none⟩) N N) ((List.range N).map R) from by
        have := RdE.of_owns (f := encJ) (xs := (List.range N).map R) (by simpa using QO) (by simp; omega)
        simpa using this)
      have QF := hid (fun j (hj : j < w.heap.size) => far_own QO (show j < rb by have h1 := HRB.out; have h2 := HS1.out; omega))
      have QB := hid (show Below w.heap.size w wf by rw [← hwf]; exact (((B0.out.trans (D1.out.mono hsz0)).trans (B1W.out.mono (by have h2 := HS1.out; omega))).setCell (p := ⟨w.heap.size + 1, 0, none⟩) (by simp) _).setCell (p := ⟨w.heap.size + 1, 1, none⟩) (by simp) _)
      have HWF := hid hwf
      have R2 := hid r
      clear hown hparts hnx hpw QO hwf r hk hke hqn hlt
      go_wp2_with fail
      try rw [HWF.out]
      exact bodyPost_ret (v := .agg #[.int .i64 (m : Int), .slice (some ⟨rb, 0, none⟩) N N]) (by simp [results, Tryz.results63, go_sem, R2.out.1, R2.out.2]) rfl ⟨_, rfl, QR.out, QF.out, QB.out⟩

end Go.Proofs.YtgahpgmagfngfaaGreatDoor


/- The walk of fdmine's minimal. -/
namespace Go.Proofs.YtgahpgmagfngfaaGreatDoor
open Go.RowKit
set_option linter.unusedVariables false

theorem fmin1_any (s : S) (b : Nat) (x : S) (w : World) (hc : w.cell? ⟨b, 0, none⟩ = some (enc s)) :
    Calls Tryz.prog 98 (#[enc x] ++ #[.pointer (some ⟨b, 0, none⟩)]) w fun e w' => e = .returned (.bool (x &&& ~~~ s == 0#32)) ∧ w = w' := by
  show Calls Tryz.prog 98 #[enc x, .pointer (some ⟨b, 0, none⟩)] w _
  unfold enc at hc ⊢
  go_enter Tryz.func98, Tryz.ntmps98
  go_wp2
  go_ret
  exact ⟨rfl, rfl⟩
/-- What minimal asks of a set. -/
def minQ (R : Nat → Int) (a : Nat) (s : S) : Bool := !s.getLsbD a && decide (R s.toNat = R (s ||| bit a).toNat)
theorem selL_nextA {Q : S → Bool} {a l : List S} {k : Nat} {s : S} (h : l[k]? = some s) : selL Q (a ++ l.take (k + 1)) = selStep Q (selL Q (a ++ l.take k)) s := by
  unfold selL; rw [take_next h, ← List.append_assoc, List.foldl_append (l' := [s])]; rfl
theorem selStep_length (Q : S → Bool) (out : List S) (s : S) : (selStep Q out s).length ≤ out.length + 1 := by
  unfold selStep; split <;> simp
theorem selL_length (Q : S → Bool) (l : List S) : (selL Q l).length ≤ l.length := by
  unfold selL
  have : ∀ (l out : List S), (l.foldl (selStep Q) out).length ≤ out.length + l.length := by
    intro l
    induction l with
    | nil => intro out; simp
    | cons x l ih =>
      intro out
      rw [List.foldl_cons, List.length_cons]
      have h1 := ih (selStep Q out x)
      have h2 := selStep_length Q out x
      omega
  have := this l []
  simpa using this
theorem levs_length {m : Nat} (hm : m ≤ 16) (k : Nat) : (levsL m k).length ≤ 65536 := by
  have hN : 2 ^ m ≤ 2 ^ 16 := Nat.pow_le_pow_right (by omega) hm
  refine Nat.le_trans (ord_bound (n := 2 ^ m) (levsL_ord m k).1 fun s hs => sub_full_lt.1 (((levsL_ord m k).2 s).1 hs).1) (by omega)

set_option maxHeartbeats 6400000 in
set_option maxRecDepth 100000 in
theorem fmin_any (m a most : Nat) (R : Nat → Int) (rv : Value) (w : World) (hm : m ≤ 10) (ha : a < m) (hr : RdE encJ w rv ((List.range (2 ^ m)).map R)) :
    Calls Tryz.prog 64 #[.agg #[.int .i64 (m : Int), rv], .int .i64 (a : Int), .int .i64 (most : Int)] w fun e w' => ∃ v', e = .returned v' ∧ w'.ownsRow w.heap.size 55 1 v' (selL (minQ R a) (levsL m (min most m + 1))).length ((selL (minQ R a) (levsL m (min most m + 1))).map enc) ∧ Below w.heap.size w w' := by
  obtain ⟨ro, rcap, hform, -, -⟩ := hr.split
  have hl : ((List.range (2 ^ m)).map R).length = 2 ^ m := by simp
  rw [hl] at hform
  have hb0 := below_alloc w (.cells #[.int .i64 (m : Int), rv] 128)
  have C2 := hid (fun (W : World) h => cells2 (w := w) (a := .int .i64 (m : Int)) (b := rv) (t := 128) W h)
  have hr0 := hr.below hb0
  obtain ⟨w0, hw0⟩ : ∃ w0 : World, w.alloc (.cells #[.int .i64 (m : Int), rv] 128) = w0 := ⟨_, rfl⟩
  rw [hw0] at hb0 C2 hr0
  have W0 := hid hw0
  have B0 := hid hb0
  have DE := hid (fun (s : S) (hs : sub s (fullN m)) (W : World) (h : Below w0.heap.size w0 W) => fdet_any m a R rv s W hm ha hs (hr0.below h))
  have LV := hid (fun (k : Nat) (hk : k ≤ m) (W : World) => alevel_any m k W (by omega) hk)
  have LS := hid (fun k => levs_length (m := m) (by omega) k)
  have LO := hid (fun k s (h : s ∈ levL m k) => (((levL_ord m k).2 s).1 h).1)
  have LX := hid (fun k => show levsL m (k + 1) = levsL m k ++ levL m k from rfl)
  have L0 := hid (show levsL m 0 = [] from rfl)
  have SB := hid (fun (b : Nat) (s : S) (out : List S) (u : Value) (W : World) (hu : RdE enc W u out) (hc : W.cell? ⟨b, 0, none⟩ = some (enc s)) => containsFunc_any 98 #[.pointer (some ⟨b, 0, none⟩)] (fun y => y &&& ~~~ s == 0#32) out u W hu
    (enters _ _ _ Tryz.func98 (by kernel_rfl) rfl) (fun y => fmin1_any s b y W hc))
  subst hform
  obtain ⟨K, hK⟩ : ∃ K, min most m = K := ⟨_, rfl⟩
  have hKm : K ≤ m := by omega
  have MI : min (most : Int) (m : Int) = (K : Int) := by omega
  rw [hK]
  have a0 : (0 : Int) ≤ (a : Int) := by omega
  have a1 : (a : Int) < 32 := by omega
  have HM := hid hm
  have HKM := hid hKm
  obtain ⟨c0, c1⟩ := C2.out _ (Below.refl _ _)
  clear hr hb0 hr0 hw0 hl hK hKm ha hm
  generalize levsL m = LVS at *
  generalize levL m = LVL at *
  generalize 2 ^ m = N at *
  go_enter Tryz.func64, Tryz.ntmps64
  go_upto_region 1 with fail
  rw [W0.out]
  go_wp2_with fail
  go_loopw [7, 8] (fun u i wr => ∃ k : Nat, k ≤ K + 1 ∧ i = .int .i64 k ∧ wr.ownsRow w0.heap.size 55 1 u (selL (minQ R a) (LVS k)).length ((selL (minQ R a) (LVS k)).map enc) ∧ Below w0.heap.size w0 wr) (fun _ i _ => K + 1 - (intOf i).toNat)
  case atStart => exact ⟨0, Nat.zero_le _, rfl, by rw [L0.out]; exact World.ownsRow_nil _ _ _ _, Below.refl _ _⟩
  case round =>
    obtain ⟨wo, rfl⟩ : ∃ wo : World, wo = wr := ⟨_, rfl⟩
    obtain ⟨k, hk, rfl, hown, hnx⟩ := hrel
    have hsz := hnx.size
    have k0 : (0 : Int) ≤ (k : Int) := by omega
    have k9 : (k : Int) ≤ 100 := by have := HM.out; have := HKM.out; omega
    obtain ⟨d0, d1⟩ := C2.out _ hnx
    by_cases hlt : k ≤ K
    · have hlt2 : (k : Int) ≤ (K : Int) := by omega
      have L1 := hid (LV.out k (by have := HKM.out; omega) wo)
      have LX1 := hid (LX.out k)
      have LO1 := hid (LO.out k)
      have OWO := hid hown
      have NXO := hid hnx
      have HLT := hid hlt
      have LS1 := hid (LS.out (k + 1))
      obtain ⟨LK, hLK⟩ : ∃ LK, LVL k = LK := ⟨_, rfl⟩
      obtain ⟨AK, hAK⟩ : ∃ AK, LVS k = AK := ⟨_, rfl⟩
      rw [hLK] at L1 LX1 LO1
      rw [hAK] at LX1 OWO
      rw [LX1.out] at LS1
      clear hown hnx hLK hAK hlt
      go_wp2_with fail
      refine L1.out.mono ?_
      rintro e w2 ⟨v2, rfl, ho2, hl2, hb2⟩
      have O2 := hid ho2
      have HL2 := hid hl2
      have OW2 := hid (own_below OWO.out hb2)
      have NX2 := hid (NXO.out.trans (hb2.mono hsz))
      obtain ⟨lo, lcap, hlv, -, -⟩ := (RdE.of_owns ho2 (by omega)).split
      subst hlv
      have FARL := hid (fun (g : Nat) (h1 : Value.ownBlock u7 = some g) (h2 : (Value.slice lo LK.length lcap).ownBlock = some g) => show False by
        have e1 := (OWO.out.lt g h1).2
        have e2 := (ho2.lt g h2).1
        omega)
      clear ho2 hl2 hb2 d0 d1
      have hsz2 := NX2.out.size
      go_wp2_with fail
      go_loopw [7, 30] (fun u i wr => ∃ j : Nat, j ≤ LK.length ∧ i = .int .i64 j ∧ wr.ownsRow w0.heap.size 55 1 u (selL (minQ R a) (AK ++ LK.take j)).length ((selL (minQ R a) (AK ++ LK.take j)).map enc) ∧ Grow1 w2 u7 wr u) (fun _ i _ => LK.length - (intOf i).toNat)
      case atStart => exact ⟨0, Nat.zero_le _, rfl, by rw [List.take_zero, List.append_nil]; exact OW2.out, Grow1.refl _ _⟩
      case round =>
        obtain ⟨j, hj, rfl, hown, hgw⟩ := hrel
        have j0 : (0 : Int) ≤ (j : Int) := by omega
        have jn : (j : Int) ≤ 65536 := by have := HL2.out; omega
        have NXR := hid (hgw.of_below NX2.out OW2.out hsz2)
        have hszr := NXR.out.size
        have LR := hgw.far O2.out FARL.out
        by_cases hlj : j < LK.length
        · obtain ⟨x, hx⟩ := get_some hlj
          obtain ⟨lo', lcap', hle, -, hlc⟩ := (RdE.of_owns LR (by have := HL2.out; omega)).split
          simp only [Value.slice.injEq, true_and] at hle
          obtain ⟨rfl, rfl⟩ := hle
          obtain ⟨b, off, rfl, hd⟩ := hlc j x hx
          have LOX := hid (LO1.out x (List.mem_of_getElem? hx))
          have SN := hid (selL_nextA (Q := minQ R a) (a := AK) hx)
          have SLN := hid (selL_length (minQ R a) (AK ++ LK.take j))
          have SLT := hid (show (AK ++ LK.take j).length ≤ 65536 by have := LS1.out; rw [List.length_append] at this ⊢; rw [List.length_take]; omega)
          have e0 := hd wr (Below.refl _ _)
          have hrd := RdE.of_owns hown (by have := SLN.out; have := SLT.out; omega)
          have ba := below_alloc wr (.cells #[.int .u32 (iv x)] 55)
          have SB1 := hid (SB.out wr.heap.size x _ u7 _ (hrd.below ba) cell_new)
          have NA := hid (NXR.out.trans (ba.mono hszr))
          have DE1 := hid (DE.out x LOX.out _ NA.out)
          obtain ⟨q0, q1⟩ := C2.out _ NA.out
          have CQ := hid (fun (W : World) (h : Below w0.heap.size w0 W) => C2.out W h)
          have MQ := hid (show minQ R a x = (!x.getLsbD a && decide (R x.toNat = R (x ||| bit a).toNat)) from rfl)
          have SS := hid (show selStep (minQ R a) (selL (minQ R a) (AK ++ LK.take j)) x = if minQ R a x && !(selL (minQ R a) (AK ++ LK.take j)).any (fun y => y &&& ~~~ x == 0#32) then selL (minQ R a) (AK ++ LK.take j) ++ [x] else selL (minQ R a) (AK ++ LK.take j) from rfl)
          obtain ⟨O, hO⟩ : ∃ O, (selL (minQ R a) (AK ++ LK.take j)).any (fun y => y &&& ~~~ x == 0#32) = O := ⟨_, rfl⟩
          obtain ⟨D, hD⟩ : ∃ D, decide (R x.toNat = R (x ||| bit a).toNat) = D := ⟨_, rfl⟩
          rw [hO] at SB1 SS
          rw [hD] at DE1 MQ
          obtain ⟨out, hout⟩ : ∃ out, selL (minQ R a) (AK ++ LK.take j) = out := ⟨_, rfl⟩
          rw [hout] at hown SN SLN SS
          have OW := hid hown
          have GW := hid hgw
          have OLE := hid (show out.length ≤ 65536 by have h1 := SLN.out; have h2 := SLT.out; omega)
          have HLJ := hid hlj
          have BA := hid ba
          unfold enc at e0
          clear hlc hd hx hrd ba hO hD hout hown hgw hlj LR SLN SLT q0 q1
          cases hq : x.getLsbD a with
          | true =>
            have ST := hid (show selStep (minQ R a) out x = out by rw [SS.out, MQ.out, hq]; rfl)
            have hb1 : (iv (x >>> a &&& 1#32) == 1) = true := by rw [bit_test]; exact hq
            have hb2 := beq_iff_eq.1 hb1
            clear hq hb1
            go_wp2_with fail
            go_roundw
            case rel => exact ⟨j + 1, by have := HLJ.out; omega, by go_num, by rw [SN.out, ST.out]; exact OW.out.alloc _, GW.out.alloc _⟩
            case measure => have := HLJ.out; simp [intOf]; omega
          | false =>
            have hb1 : (iv (x >>> a &&& 1#32) == 1) = false := by rw [bit_test]; exact hq
            cases O with
            | true =>
              have ST := hid (show selStep (minQ R a) out x = out by rw [SS.out, MQ.out, hq]; simp)
              go_wp2_with fail
              refine SB1.out.mono ?_
              rintro e w3 ⟨rfl, rfl⟩
              go_wp2_with fail
              go_roundw
              case rel => exact ⟨j + 1, by have := HLJ.out; omega, by go_num, by rw [SN.out, ST.out]; exact OW.out.alloc _, GW.out.alloc _⟩
              case measure => have := HLJ.out; simp [intOf]; omega
            | false =>
              obtain ⟨q0, q1⟩ := CQ.out _ NA.out
              cases D with
              | false =>
                have ST := hid (show selStep (minQ R a) out x = out by rw [SS.out, MQ.out, hq]; rfl)
                go_wp2_with fail
                refine SB1.out.mono ?_
                rintro e w3 ⟨rfl, rfl⟩
                go_wp2_with fail
                refine DE1.out.mono ?_
                rintro e w4 ⟨rfl, hb4⟩
                have OW4 := hid (own_below (OW.out.alloc _) hb4)
                have GW4 := hid ((GW.out.alloc _).below hb4)
                clear hb4
                go_wp2_with fail
                go_roundw
                case rel => exact ⟨j + 1, by have := HLJ.out; omega, by go_num, by rw [SN.out, ST.out]; exact OW4.out, GW4.out⟩
                case measure => have := HLJ.out; simp [intOf]; omega
              | true =>
                have ST := hid (show selStep (minQ R a) out x = out ++ [x] by rw [SS.out, MQ.out, hq]; rfl)
                go_wp2_with fail
                refine SB1.out.mono ?_
                rintro e w3 ⟨rfl, rfl⟩
                go_wp2_with fail
                refine DE1.out.mono ?_
                rintro e w4 ⟨rfl, hb4⟩
                have OW4 := hid (own_below (OW.out.alloc _) hb4)
                have GW4 := hid ((GW.out.alloc _).below hb4)
                have cx : w4.cell? ⟨wr.heap.size, 0, none⟩ = some (.int .u32 (iv x)) := (hb4.cell (p := ⟨wr.heap.size, 0, none⟩) (by simp)).trans cell_new
                have H4 := hid (show w0.heap.size ≤ w4.heap.size by have h1 := NA.out.size; have h2 := hb4.size; omega)
                clear hb4
                go_wp2_with (at_builtin; refine wpList_pushE rfl _ _ 59 rfl w0.heap.size 55 (.int .u32 0) 4 undSets infoSet rfl (by decide) enc _ out rfl (OW4.out.alloc _) ⟨w4.heap.size, 0, none⟩ x rfl rfl (by simp [enc]) (by have := OLE.out; omega) (by have := H4.out; simp; omega) ?_)
                intro v' w5 hown' hgrow hv'
                have GW5 := hid (Grow1.push (GW4.out.alloc _) hgrow (hv'.imp id fun h => by simpa using h))
                have OW5 := hid (show w5.ownsRow w0.heap.size 55 1 v' (selStep (minQ R a) out x).length ((selStep (minQ R a) out x).map enc) by rw [ST.out]; simpa using hown')
                clear hown' hgrow hv' cx
                go_wp2_with fail
                go_roundw
                case rel => exact ⟨j + 1, by have := HLJ.out; omega, by go_num, by rw [SN.out]; exact OW5.out, GW5.out⟩
                case measure => have := HLJ.out; simp [intOf]; omega
        · have hje : LK.length ≤ j := by omega
          rw [List.take_of_length_le hje, ← LX1.out] at hown
          have OW := hid hown
          clear hown hgw LR hje
          go_wp2_with fail
          go_roundw
          case rel => exact ⟨k + 1, by have := HLT.out; omega, by go_num, OW.out, NXR.out⟩
          case measure => have := HLT.out; simp [intOf]; omega
    · have hlt2 : ¬ (k : Int) ≤ (K : Int) := by omega
      have hke : k = K + 1 := by omega
      have FO := hid (own_mono hown (show w.heap.size ≤ w0.heap.size from B0.out.size))
      have BF := hid (B0.out.trans (hnx.mono B0.out.size))
      rw [hke] at FO
      clear hown hnx hke hlt
      go_wp2_with fail
      go_ret
      exact ⟨_, rfl, FO.out, BF.out⟩

end Go.Proofs.YtgahpgmagfngfaaGreatDoor


/- The walk of fdmine.For. -/
namespace Go.Proofs.YtgahpgmagfngfaaGreatDoor
open Go.RowKit
set_option linter.unusedVariables false

theorem pop_fullK : ∀ k : Fin 17, pop (fullN k.val) ≤ k.val := by decide +kernel
theorem pop_sub_full {m : Nat} (hm : m ≤ 16) {s : S} (h : sub s (fullN m)) : pop s ≤ m := Nat.le_trans (sub_pop h) (pop_fullK ⟨m, by omega⟩)
theorem forL_sub {m a : Nat} {rs : List Row3} (ha : a < 32) {s : S} (h : s ∈ forL m rs a) : sub s (fullN m) := ((mem_forL ha).1 h).1.1
theorem forK_min {m a : Nat} {rs : List Row3} (hm : m ≤ 16) (ha : a < 32) (K : Nat) : forK m rs a (min K m) = forK m rs a K := by
  unfold forK
  apply List.filter_congr
  intro s hs
  have := pop_sub_full hm (forL_sub ha hs)
  rw [decide_eq_decide]; omega
theorem forK_all {m a K : Nat} {rs : List Row3} (hm : m ≤ 16) (ha : a < 32) (hK : m ≤ K) : forK m rs a K = forL m rs a := by
  unfold forK
  rw [List.filter_eq_self]
  intro s hs
  have := pop_sub_full hm (forL_sub ha hs)
  rw [decide_eq_true_iff]; omega
theorem min_for {m a : Nat} {rs : List Row3} (h : FineR m rs) (ha : a < m) (hm : m ≤ 16) (K : Nat) :
    selL (minQ (fun k => rankN rs (BitVec.ofNat 32 k)) a) (levsL m (min K m + 1)) = forK m rs a K := by
  rw [← forK_min hm (by omega)]
  refine selL_for (by omega) ((levsL_ord m _).congr fun s => ?_) fun s hs => ?_
  · refine and_congr Iff.rfl ?_; omega
  · show (!s.getLsbD a && decide (rankN rs (BitVec.ofNat 32 s.toNat) = rankN rs (BitVec.ofNat 32 (s ||| bit a).toNat))) = _
    rw [BitVec.ofNat_toNat, BitVec.setWidth_eq, BitVec.ofNat_toNat, BitVec.setWidth_eq, rank_iff h ha hs]


end Go.Proofs.YtgahpgmagfngfaaGreatDoor


/- A map of the call's own from sets to rows of numbers, each a row of the call's own. -/
namespace Go.Proofs.YtgahpgmagfngfaaGreatDoor
open Go.RowKit
set_option linter.unusedVariables false

theorem undMapI : Tryz.prog.underlying 130 = some (.map 55 37) := by kernel_rfl
noncomputable abbrev setKI := setKeys (P := Tryz.prog) (k := 55) undSetK
structure OwnMR (w : World) (B mb n : Nat) (f : S → Value) (R : S → List Int) (us : List Value) : Prop where
  map : ∃ p, OwnG setKI (.slice none 0 0) w mb n f p
  mlt : mb < B
  rows : ∀ s, w.ownsRow B 3 1 (f s) (R s).length ((R s).map encJ)
  apart : ∀ s s', s ≠ s' → (f s).ownBlock = none ∨ (f s).ownBlock ≠ (f s').ownBlock
  away : ∀ s, ∀ u ∈ us, (f s).ownBlock = none ∨ (f s).ownBlock ≠ u.ownBlock
variable {w w' w1 w2 : World} {B mb n : Nat} {f : S → Value} {R : S → List Int} {us : List Value}
theorem OwnMR.below (h : OwnMR w B mb n f R us) (hb : Below w.heap.size w w') : OwnMR w' B mb n f R us := by
  obtain ⟨p, hp⟩ := h.map
  exact ⟨⟨p, hp.below hb⟩, h.mlt, fun s => own_below (h.rows s) hb, h.apart, h.away⟩
theorem OwnMR.grown {row : Option Nat} (h : OwnMR w B mb n f R us) (hg : w.grownBy w' row) (hr : ∀ j, row = some j → B ≤ j ∧ ∀ s, (f s).ownBlock ≠ some j) : OwnMR w' B mb n f R us := by
  obtain ⟨p, hp⟩ := h.map
  refine ⟨⟨p, hp.kept hg fun e => ?_⟩, h.mlt, fun s => (h.rows s).kept hg ?_, h.apart, h.away⟩
  · have h1 := (hr mb e.symm).1
    have h2 := h.mlt
    omega
  · cases hu : (f s).ownBlock with
    | none => exact .inl rfl
    | some j => exact .inr fun e => (hr j e.symm).2 s hu
theorem OwnMR.seen {vs : List Value} (h : OwnMR w B mb n f R us) (hv : ∀ s, ∀ u ∈ vs, (f s).ownBlock = none ∨ (f s).ownBlock ≠ u.ownBlock) : OwnMR w B mb n f R vs := ⟨h.map, h.mlt, h.rows, h.apart, hv⟩
theorem OwnMR.mono {n' : Nat} (h : OwnMR w B mb n f R us) (hn : n ≤ n') : OwnMR w B mb n' f R us := by
  obtain ⟨p, hp⟩ := h.map
  exact ⟨⟨p, hp.mono hn⟩, h.mlt, h.rows, h.apart, h.away⟩
theorem OwnMR.congr {R' : S → List Int} (h : OwnMR w B mb n f R us) (hR : ∀ s, R s = R' s) : OwnMR w B mb n f R' us := ⟨h.map, h.mlt, fun s => by rw [← hR s]; exact h.rows s, h.apart, h.away⟩
theorem OwnMR.made (w : World) (B : Nat) (hB : w.heap.size < B) (us : List Value) : OwnMR (w.alloc (.map #[] 0)) B w.heap.size 0 (fun _ => .slice none 0 0) (fun _ => []) us :=
  ⟨⟨_, OwnG.made setKI _ w⟩, hB, fun _ => World.ownsRow_nil _ _ _ _, fun _ _ _ => .inl rfl, fun _ _ _ => .inl rfl⟩
theorem OwnMR.put {x : S} {v' : Value} {y : Int} {n' : Nat} (h : OwnMR w B mb n f R us) (ho : w1.ownsRow B 3 1 v' (R x ++ [y]).length ((R x ++ [y]).map encJ)) (hg : w.grownBy w1 (f x).ownBlock)
    (hv : v'.ownBlock = (f x).ownBlock ∨ v'.ownBlock = some w.heap.size) (hm : ∃ p, OwnG setKI (.slice none 0 0) w2 mb n' (updG f x v') p) (hg2 : w1.grownBy w2 (some mb))
    (hus : ∀ u ∈ us, ∀ j, u.ownBlock = some j → j < w.heap.size) : OwnMR w2 B mb n' (updG f x v') (updG R x (R x ++ [y])) us := by
  have hB : ∀ {u : Value} {m : Nat} {zs : List Value} {w : World}, w.ownsRow B 3 1 u m zs → u.ownBlock = none ∨ u.ownBlock ≠ some mb := by
    intro u m zs w hu
    cases e : u.ownBlock with
    | none => exact .inl rfl
    | some j =>
      refine .inr fun e2 => ?_
      have h1 := (hu.lt j e).1
      have h2 := h.mlt
      have h3 : j = mb := by simpa using e2
      omega
  have hlt : ∀ s j, (f s).ownBlock = some j → j < w.heap.size := fun s j e => ((h.rows s).lt j e).2
  refine ⟨hm, h.mlt, fun s => ?_, fun s s' hne => ?_, fun s u hu => ?_⟩
  · unfold updG
    by_cases e : s = x
    · rw [if_pos e, if_pos e]
      exact ho.kept hg2 (hB ho)
    · rw [if_neg e, if_neg e]
      have h1 := (h.rows s).kept hg (h.apart s x e)
      exact h1.kept hg2 (hB h1)
  · unfold updG
    by_cases e : s = x
    · subst e
      rw [if_pos rfl, if_neg (fun e => hne e.symm)]
      rcases hv with e1 | e1
      · rw [e1]; exact h.apart s s' hne
      · refine .inr fun e2 => ?_
        have := hlt s' w.heap.size (by rw [← e2, e1])
        omega
    · rw [if_neg e]
      by_cases e' : s' = x
      · subst e'
        rw [if_pos rfl]
        rcases hv with e1 | e1
        · rw [e1]; exact h.apart s s' hne
        · cases hs : (f s).ownBlock with
          | none => exact .inl rfl
          | some j =>
            refine .inr fun e2 => ?_
            have := hlt s j hs
            rw [e1] at e2
            have : j = w.heap.size := by simpa using e2
            omega
      · rw [if_neg e']; exact h.apart s s' hne
  · unfold updG
    by_cases e : s = x
    · subst e
      rw [if_pos rfl]
      rcases hv with e1 | e1
      · rw [e1]; exact h.away s u hu
      · refine .inr fun e2 => ?_
        have := hus u hu w.heap.size (by rw [← e2, e1])
        omega
    · rw [if_neg e]; exact h.away s u hu
/-- 'append(out, ys...)' of sets, out the call's own, ys a row of some call's own. -/
theorem wpList_appendR {P : Program} {w : World} {ops : Array Oper} {rest : List Oper} {o : Oper} {a : Act} {Q : Exit → Act → World → Prop} (hgd : o.guard = none) (s x : Operand) (t : TypeId)
    (ho : o.op = .call { callee := .builtin .append, args := #[s, x], argTypes := #[t, t] })
    (B : Nat) (e : TypeId) (ht : P.underlying t = some (.slice e)) (hinfo : (P.info? e).map (fun i => (i.zero, i.size, i.bytes)) = some (some (.int .u32 0), 1, 4))
    (v : Value) (xs : List S) (hs : a.eval s = v) (hown : w.ownsRow B e 1 v xs.length (xs.map enc))
    (B' : Nat) (u : Value) (ys : List S) (hx : a.eval x = u) (hu : w.ownsRow B' e 1 u ys.length (ys.map enc)) (hl : xs.length + ys.length ≤ 10000000) (hB : B ≤ w.heap.size)
    (h : ∀ v' w', w'.ownsRow B e 1 v' (xs ++ ys).length ((xs ++ ys).map enc) → w.grownBy w' v.ownBlock → (v'.ownBlock = v.ownBlock ∨ v'.ownBlock = some w.heap.size) → wpList P ops Q rest (a.put o.dst v') w') : wpList P ops Q (o :: rest) a w := by
  obtain ⟨i, hi, hz0, hz1, hz2⟩ := info_parts hinfo
  rcases hu.2 with ⟨h1, h2⟩ | ⟨g, cap, cur, hv, -⟩
  · have hys : ys = [] := List.eq_nil_of_length_eq_zero (by first | exact h2 | simpa using h2)
    subst hys
    refine wpList_append_own_none hgd s x t ho B e i 1 ht hi v xs.length (xs.map enc) hs hown (by rw [hx, h1]) (h v w (by simpa using hown) (World.grownBy.refl w _) (.inl rfl))
  · subst hv
    refine wpList_append_own_at w hgd s x t ho B e i (.int .u32 0) 1 4 ht hi hz0 hz1 hz2 rfl (by decide) v xs.length (xs.map enc) hs hown ⟨g, 0, none⟩ ys.length cap (ys.map enc) hx (by simp) ?_ ?_ ?_ ?_ hB ?_
    · intro j y hj
      have hj2 := (List.getElem?_eq_some_iff.1 hj).1
      have e : (⟨g, 0, none⟩ : Addr).add j = ⟨g, j, none⟩ := by unfold Addr.add; simp; omega
      rw [e]
      exact (hu.cellAt j (by simpa using hj2)).trans hj
    · intro y hy
      obtain ⟨z, _, rfl⟩ := List.mem_map.1 hy
      rfl
    · unfold maxLen; omega
    · omega
    · intro v' w' q1 q2 _ q4
      exact h v' w' (by simpa using q1) q2 q4

/-! Plain: the rows of the map. -/
def rowsN (G : Nat → List S) (a : Nat) (s : S) : List Int := ((List.range a).filter fun b => decide (s ∈ G b)).map fun b : Nat => (b : Int)
def rowsJ (G : Nat → List S) (a j : Nat) (s : S) : List Int := rowsN G a s ++ if s ∈ (G a).take j then [(a : Int)] else []
theorem rowsJ_zero (G : Nat → List S) (a : Nat) (s : S) : rowsN G a s = rowsJ G a 0 s := by unfold rowsJ; simp
theorem rowsJ_end {G : Nat → List S} {a j : Nat} (hj : (G a).length ≤ j) (s : S) : rowsJ G a j s = rowsN G (a + 1) s := by
  unfold rowsJ rowsN
  rw [List.take_of_length_le hj, List.range_succ, List.filter_append, List.map_append]
  congr 1
  by_cases h : s ∈ G a
  · simp [h]
  · simp [h]
theorem rowsJ_next {G : Nat → List S} {a j : Nat} {x : S} (hn : (G a).Nodup) (hx : (G a)[j]? = some x) (s : S) : updG (rowsJ G a j) x (rowsJ G a j x ++ [(a : Int)]) s = rowsJ G a (j + 1) s := by
  have hnot : x ∉ (G a).take j := by
    intro hm
    obtain ⟨p, hp⟩ := List.mem_iff_getElem?.1 hm
    have hpl : p < j := by have := (List.getElem?_eq_some_iff.1 hp).1; rw [List.length_take] at this; omega
    rw [List.getElem?_take_of_lt hpl] at hp
    obtain ⟨p1, p2⟩ := List.getElem?_eq_some_iff.1 hp
    obtain ⟨q1, q2⟩ := List.getElem?_eq_some_iff.1 hx
    exact List.pairwise_iff_getElem.1 hn p j p1 q1 hpl (by rw [p2, q2])
  unfold updG
  by_cases e : s = x
  · subst e
    rw [if_pos rfl]
    unfold rowsJ
    rw [if_neg hnot, List.append_nil, if_pos (by rw [take_next hx]; simp)]
  · rw [if_neg e]
    unfold rowsJ
    have : (s ∈ (G a).take (j + 1)) ↔ s ∈ (G a).take j := by
      rw [take_next hx, List.mem_append, List.mem_singleton]
      exact ⟨fun h => h.resolve_right e, .inl⟩
    simp only [this]
theorem rowsN_bound (G : Nat → List S) (a : Nat) (s : S) : (rowsN G a s).length ≤ a := by
  unfold rowsN
  rw [List.length_map]
  refine Nat.le_trans (List.length_filter_le _ _) (by simp)
theorem rowsJ_bound (G : Nat → List S) (a j : Nat) (s : S) : (rowsJ G a j s).length ≤ a + 1 := by
  unfold rowsJ
  have := rowsN_bound G a s
  rw [List.length_append]
  split
  · simp; omega
  · simp; omega
/-- The dependencies, in order. -/
def bndG (G : Nat → List S) (m : Nat) : List F := (ordS ((List.range m).flatMap G)).flatMap fun s => (rowsN G m s).map fun b => (s, bit b.toNat)
noncomputable def bndL (m : Nat) (rs : List Row3) (K : Nat) : List F := bndG (fun a => forK m rs a K) m

end Go.Proofs.YtgahpgmagfngfaaGreatDoor


/- The walk of fdmine.Bounded. -/
namespace Go.Proofs.YtgahpgmagfngfaaGreatDoor
open Go.RowKit
set_option linter.unusedVariables false

def bE (t : T3) (most : Int) : Int := if fE t ≠ 0 then fE t else if most < 0 then 7 else 0
noncomputable def bndR (t : T3) (most : Int) : List F := if bE t most = 0 then bndL t.2.1.length t.2.2 most.toNat else []
theorem bE_ok {t : T3} {most : Int} (h : bE t most = 0) : fE t = 0 ∧ ∃ n : Nat, most = (n : Int) := by
  unfold bE at h
  by_cases h0 : fE t = 0
  · rw [if_neg (by simpa using h0)] at h
    by_cases h1 : most < 0
    · rw [if_pos h1] at h; cases h
    · exact ⟨h0, most.toNat, by omega⟩
  · rw [if_pos h0] at h; exact absurd h h0
theorem forK_bound {m a K : Nat} {rs : List Row3} (hm : m ≤ 16) (ha : a < 32) : (forK m rs a K).length ≤ 65536 := by
  have hN : 2 ^ m ≤ 2 ^ 16 := Nat.pow_le_pow_right (by omega) hm
  refine Nat.le_trans (ord_bound (n := 2 ^ m) ((forL_ord m rs a).filter fun s => decide (pop s ≤ K)).1 fun s hs => sub_full_lt.1 ?_) (by omega)
  exact forL_sub ha (List.mem_filter.1 hs).1
theorem forK_nodup (m a K : Nat) (rs : List Row3) : (forK m rs a K).Nodup := ord_nodup ((forL_ord m rs a).filter fun s => decide (pop s ≤ K))
theorem flat_bound {G : Nat → List S} {m : Nat} (h : ∀ a, a < m → (G a).length ≤ 65536) : ∀ k, k ≤ m → ((List.range k).flatMap G).length ≤ k * 65536 := by
  intro k
  induction k with
  | zero => intro _; simp
  | succ k ih =>
    intro hk
    rw [List.range_succ, List.flatMap_append, List.length_append]
    have h1 := ih (by omega)
    have h2 := h k (by omega)
    simp only [List.flatMap_cons, List.flatMap_nil, List.append_nil]
    omega

set_option maxHeartbeats 6400000 in
set_option maxRecDepth 100000 in
theorem fbnd_ok (t : T3) (av rv : Value) (most : Nat) (w : World) (ht : RdT w av rv t) (hT : Tab w) (hE : fE t = 0) (hok : okT t) :
    Calls Tryz.prog 31 #[.agg #[.string t.1, av, rv], .int .i64 (most : Int)] w fun e w' => ∃ v', e = .returned (.tuple #[v', .int .i64 0]) ∧ RdF w' v' (bndL t.2.1.length t.2.2 most) ∧ Below w.heap.size w w' := by
  have hm10 := (fE_ok hE).2.1
  have FI := fine_of (fE_tab hE) hok
  have hb0 := below_alloc w (.cells #[.string t.1, av, rv] 48)
  have C3 := hid (fun W h => cells3 (w := w) (a := .string t.1) (b := av) (c := rv) (t := 48) W h)
  have T0 := hid (ht.below hb0)
  obtain ⟨w0, hw0⟩ : ∃ w0 : World, w.alloc (.cells #[.string t.1, av, rv] 48) = w0 := ⟨_, rfl⟩
  rw [hw0] at hb0 C3 T0
  have B0 := hid hb0
  have W0 := hid hw0
  have hsz0 := hb0.size
  clear hb0 hw0
  have HT0 := hid (hT.below B0.out)
  have FA := hid (fun (W : World) (h : Below w0.heap.size w0 W) => flimits_any t av rv W (T0.out.below h))
  rw [hE] at FA
  have CL := hid (fun (W : World) (h : Below w0.heap.size w0 W) => fclimb_any t av rv W (T0.out.below h) (HT0.out.below h) hE hok)
  have MN := hid (fun (a : Nat) (ha : a < t.2.1.length) (v : Value) (W : World) (hv : RdE encJ W v ((List.range (2 ^ t.2.1.length)).map fun k => rankN t.2.2 (BitVec.ofNat 32 k))) => by
    have h := fmin_any t.2.1.length a most _ v W hm10 ha hv
    rw [min_for FI ha (by omega)] at h
    exact h)
  obtain ⟨nm, ats, rs⟩ := t
  obtain ⟨ao, acap, hva, -⟩ := T0.out.1.split
  simp only at hva FA CL MN hm10
  subst hva
  show Calls _ _ _ _ fun e w' => ∃ v', e = .returned (.tuple #[v', .int .i64 0]) ∧ RdF w' v' (bndG (fun a => forK ats.length rs a most) ats.length) ∧ Below w.heap.size w w'
  have GB := hid (fun a (ha : a < ats.length) => forK_bound (m := ats.length) (a := a) (K := most) (rs := rs) (by omega) (by omega))
  have GN := hid (fun a => forK_nodup ats.length a most rs)
  obtain ⟨G, hG⟩ : ∃ G : Nat → List S, (fun a => forK ats.length rs a most) = G := ⟨_, rfl⟩
  have HG := hid (fun a => show forK ats.length rs a most = G a by rw [← hG])
  simp only [HG.out] at MN GB GN
  rw [hG]
  clear hG HG
  obtain ⟨RL, hRL⟩ : ∃ RL : List Int, ((List.range (2 ^ ats.length)).map fun k => rankN rs (BitVec.ofNat 32 k)) = RL := ⟨_, rfl⟩
  rw [hRL] at CL MN
  obtain ⟨c0, c1, c2⟩ := C3.out _ (Below.refl _ _)
  have hm := hid hm10
  clear ht hT hE hok FI hRL T0
  have hmm := @run_makeMap Tryz.prog
  go_enter Tryz.func31, Tryz.ntmps31
  go_wp2_with fail
  rw [W0.out]
  go_wp2_with fail
  refine (FA.out _ (Below.refl _ _)).mono ?_
  rintro e w1 ⟨rfl, hb1⟩
  have D1 := hid hb1
  obtain ⟨t10, t11, t12⟩ := C3.out _ D1.out
  have mo0 : decide ((most : Int) < 0) = false := by rw [decide_eq_false_iff_not]; omega
  clear hb1 c0 c1 c2
  go_wp2_with fail
  refine (CL.out _ D1.out).mono ?_
  rintro e w2 ⟨va, rfl, hra, -, hb2⟩
  have D2 := hid (D1.out.trans (hb2.mono D1.out.size))
  obtain ⟨ro, rcap, hrv, -⟩ := hra.split
  have ba := below_alloc w2 (.cells #[.int .i64 (ats.length : Int), va] 128)
  have LC := hid (fun (W : World) h => cells2 (w := w2) (a := .int .i64 (ats.length : Int)) (b := va) (t := 128) W h)
  have RA := hid (hra.below ba)
  obtain ⟨w3, hw3⟩ : ∃ w3 : World, w2.alloc (.cells #[.int .i64 (ats.length : Int), va] 128) = w3 := ⟨_, rfl⟩
  rw [hw3] at ba LC RA
  have D3 := hid (D2.out.trans (ba.mono D2.out.size))
  have W3 := hid hw3
  subst hrv
  clear hb2 hra ba hw3 t10 t11 t12
  have hs3 : w3.heap.size = w2.heap.size + 1 := by rw [← W3.out]; simp
  have hmd := OwnMR.made w3 (w3.heap.size + 1) (by omega) [Value.slice none 0 0]
  have n4 := below_alloc w3 (.map #[] 0)
  obtain ⟨w4, hw4⟩ : ∃ w4 : World, w3.alloc (.map #[] 0) = w4 := ⟨_, rfl⟩
  rw [hw4] at hmd n4
  have W4 := hid hw4
  obtain ⟨mb, hmb⟩ : ∃ mb, w2.heap.size + 1 = mb := ⟨_, rfl⟩
  rw [hs3, hmb] at hmd n4
  have hs4 : w4.heap.size = mb + 1 := by rw [← hw4]; simp [hs3, hmb]
  have HMB := hid hmb
  have HMD := hid hmd
  have N4 := hid n4
  have HS4 := hid hs4
  have HS3 := hid (show w3.heap.size = mb by rw [hs3, hmb])
  clear hmd n4 hw4 hs3 hs4
  go_upto_region 8 with fail
  rw [W3.out, W4.out]
  try rw [hmb]
  clear hmb
  have LC4 := hid (fun (W : World) (h : Below mb w3 W) => LC.out W (by rw [HS3.out]; exact h))
  obtain ⟨l0, l1⟩ := LC4.out _ N4.out
  have ml : (ats.length : Int) ≤ 10 := by have := hm.out; omega
  go_wp2_with fail
  go_loopw [9, 31] (fun u i wr => ∃ (a n : Nat) (f : S → Value), a ≤ ats.length ∧ i = .int .i64 a ∧ wr.ownsRow (mb + 1) 55 1 u ((List.range a).flatMap G).length (((List.range a).flatMap G).map enc) ∧ OwnMR wr (mb + 1) mb n f (rowsN G a) [u] ∧ n ≤ a * 65536 ∧ Below mb w3 wr) (fun _ i _ => ats.length - (intOf i).toNat)
  case atStart => exact ⟨0, 0, _, Nat.zero_le _, rfl, World.ownsRow_nil _ _ _ _, HMD.out.congr (fun s => by unfold rowsN; rfl), Nat.zero_le _, N4.out⟩
  case round =>
    obtain ⟨wo, rfl⟩ : ∃ wo : World, wo = wr := ⟨_, rfl⟩
    obtain ⟨a, n, f, ha, rfl, hown, hmr, hn, hnx⟩ := hrel
    have hsz := hnx.size
    have a0 : (0 : Int) ≤ (a : Int) := by omega
    have a9 : (a : Int) ≤ 10 := by omega
    obtain ⟨q0, q1⟩ := LC4.out _ hnx
    by_cases hlt : a < ats.length
    · have FB := hid (flat_bound (G := G) GB.out a (by omega))
      have M1 := hid (MN.out a hlt _ wo (RA.out.below (by rw [HS3.out]; exact hnx)))
      have GA := hid (GB.out a hlt)
      have GNA := hid (GN.out a)
      have OW := hid hown
      have MR := hid hmr
      have NX := hid hnx
      have HLT := hid hlt
      have HNB := hid hn
      have hszm : mb + 1 ≤ wo.heap.size := by have := MR.out.map; obtain ⟨p, hp⟩ := this; have := hp.lt; omega
      have HSM := hid hszm
      clear hown hmr hnx hlt hn
      go_wp2_with fail
      refine M1.out.mono ?_
      rintro e w5 ⟨lv, rfl, hol, hb5⟩
      have O5 := hid (own_below OW.out hb5)
      have MR5 := hid (MR.out.below hb5)
      have N5 := hid (NX.out.trans (hb5.mono (by have := HSM.out; omega)))
      have OL5 := hid hol
      have HB5 := hid hb5.size
      have AWL := hid (fun s => show (f s).ownBlock = none ∨ (f s).ownBlock ≠ lv.ownBlock from by
        cases hs : (f s).ownBlock with
        | none => exact .inl rfl
        | some j =>
          refine .inr fun e => ?_
          have h1 := ((MR.out.rows s).lt j hs).2
          have h2 := (OL5.out.lt j e.symm).1
          omega)
      have AUL := hid (show lv.ownBlock = none ∨ lv.ownBlock ≠ Value.ownBlock u9 from by
        cases hs : lv.ownBlock with
        | none => exact .inl rfl
        | some j =>
          refine .inr fun e => ?_
          have h1 := (OL5.out.lt j hs).1
          have h2 := (OW.out.lt j e.symm).2
          omega)
      have LTF := hid (fun s j (hs : (f s).ownBlock = some j) => show j < w5.heap.size from by have h1 := ((MR.out.rows s).lt j hs).2; have h2 := HB5.out; omega)
      clear hol hb5
      go_wp2_with (at_builtin; refine wpList_appendR rfl _ _ 59 rfl (mb + 1) 55 undSets infoSet _ _ rfl O5.out _ _ _ rfl OL5.out (by have h1 := FB.out; have h2 := GA.out; omega) (by have h1 := HSM.out; have h2 := HB5.out; omega) ?_)
      intro u6 w6 hou hgu hvu
      have MR6 := hid ((MR5.out.grown hgu (fun j hj => ⟨(O5.out.lt j hj).1, fun s e => by
        rcases MR5.out.away s u9 (by simp) with h | h
        · rw [h] at e; cases e
        · exact h (by rw [e, hj])⟩)).seen (vs := [u6, lv]) (fun s u hu => by
          simp only [List.mem_cons, List.not_mem_nil, or_false] at hu
          rcases hu with rfl | rfl
          · rcases hvu with e | e
            · rw [e]; exact MR5.out.away s u9 (by simp)
            · cases hs : (f s).ownBlock with
              | none => exact .inl rfl
              | some j =>
                refine .inr fun e2 => ?_
                have h1 := LTF.out s j hs
                rw [e] at e2
                have : j = w5.heap.size := by simpa using e2
                omega
          · exact AWL.out s))
      have OU6 := hid (show w6.ownsRow (mb + 1) 55 1 u6 ((List.range (a + 1)).flatMap G).length (((List.range (a + 1)).flatMap G).map enc) by
        rw [List.range_succ, List.flatMap_append, show [a].flatMap G = G a by simp]; simpa using hou)
      have OL6 := hid (OL5.out.kept hgu AUL.out)
      have N6 := hid (N5.out.grown hgu (by rw [← HS3.out]; exact N5.out.size) (fun j hj => by have := (O5.out.lt j hj).1; omega))
      obtain ⟨lo, ln, lcap, hlv⟩ := own_sliceN OL6.out
      obtain ⟨lo', lcap', hlv', -⟩ := (RdE.of_owns OL6.out (by have := GA.out; omega)).split
      have hln : lv = .slice lo' (G a).length lcap' := hlv'
      clear hlv hlv'
      subst hln
      have SZ6 := hid (show mb + 1 ≤ w6.heap.size by have h1 := HSM.out; have h2 := HB5.out; have h3 := hgu.size; omega)
      have HL0 := hid (fun u (hu : u ∈ [u6, Value.slice lo' (G a).length lcap']) j (hj : u.ownBlock = some j) => show j < w6.heap.size from by
        simp only [List.mem_cons, List.not_mem_nil, or_false] at hu
        rcases hu with rfl | rfl
        · exact (hou.lt j hj).2
        · exact (OL6.out.lt j hj).2)
      clear hou hgu hvu q0 q1
      go_wp2_with fail
      go_loopw [43] (fun i wr => ∃ (j n : Nat) (f : S → Value), j ≤ (G a).length ∧ i = .int .i64 j ∧ OwnMR wr (mb + 1) mb n f (rowsJ G a j) [u6, Value.slice lo' (G a).length lcap'] ∧ n ≤ a * 65536 + j ∧ wr.ownsRow (mb + 1) 55 1 u6 ((List.range (a + 1)).flatMap G).length (((List.range (a + 1)).flatMap G).map enc) ∧ wr.ownsRow wo.heap.size 55 1 (.slice lo' (G a).length lcap') (G a).length ((G a).map enc) ∧ Below mb w3 wr) (fun i _ => (G a).length - (intOf i).toNat)
      case atStart => exact ⟨0, n, f, Nat.zero_le _, rfl, MR6.out.congr (fun s => rowsJ_zero G a s), Nat.le_trans HNB.out (Nat.le_add_right _ _), OU6.out, OL6.out, N6.out⟩
      case round =>
        obtain ⟨j, n', f', hj, rfl, hmr, hn, hou, hol, hnx⟩ := hrel
        have j0 : (0 : Int) ≤ (j : Int) := by omega
        have jn : (j : Int) ≤ 65536 := by have := GA.out; omega
        by_cases hlj : j < (G a).length
        · obtain ⟨x, hx⟩ := get_some hlj
          obtain ⟨lo2, lcap2, hle, -, hlc⟩ := (RdE.of_owns hol (by have := GA.out; omega)).split
          simp only [Value.slice.injEq, true_and] at hle
          obtain ⟨rfl, rfl⟩ := hle
          obtain ⟨b, off, rfl, hd⟩ := hlc j x hx
          have e0 := hd wr (Below.refl _ _)
          unfold enc at e0
          have RN := hid (fun s => rowsJ_next GNA.out hx s)
          have RBD := hid (rowsJ_bound G a j x)
          have HLJ := hid hlj
          have MR := hid hmr
          have HOU := hid hou
          have HOL := hid hol
          have HNX := hid hnx
          have HNN := hid hn
          obtain ⟨p, hp⟩ := hmr.map
          have HP := hid hp
          have hszr : mb + 1 ≤ wr.heap.size := by have := hp.lt; omega
          have HSR := hid hszr
          have ba := below_alloc wr (.cells #[.int .i64 (a : Int)] 3)
          have RX := hid ((MR.out.below ba).rows x)
          have SZA := hid (show (wr.alloc (.cells #[.int .i64 (a : Int)] 3)).heap.size = wr.heap.size + 1 by simp)
          have HBA := hid ba
          clear hmr hou hol hnx hn hp hlj hlc hd hx ba
          go_wp2_with (first
            | (at_lookup; refine wpList_glook (E := setKI) (z := .slice none 0 0) (f := f') (p := p) (n := n') (b := mb) (e := 37) rfl _ _ 130 rfl undMapI (Tryz.zeroValue37 _) rfl HP.out x rfl ?_)
            | (at_builtin; refine wpList_pushE rfl _ _ 37 rfl (mb + 1) 3 (.int .i64 0) 8 undPJ infoPJ rfl (by decide) encJ _ (rowsJ G a j x) rfl RX.out ⟨wr.heap.size, 0, none⟩ (a : Int) rfl rfl (by simp [encJ]) (by have h1 := RBD.out; omega) (by have h1 := HSR.out; simp; omega) ?_))
          intro v7 w7 hown7 hg7 hv7
          have M7 := hid ((HP.out.below HBA.out).kept hg7 (fun e => by have := (RX.out.lt mb e.symm).1; omega))
          have hn7 : n' < maxLen := by have h1 := HNN.out; have h2 := GA.out; have h3 := HLJ.out; unfold maxLen; omega
          go_wp2_with (at_mapUpdate; refine wpList_gput (E := setKI) (e := 37) rfl _ _ _ 130 rfl undMapI rfl M7.out hn7 x v7 rfl rfl ?_)
          intro w8 hm8 hg8
          have MR8 := hid (((MR.out.below HBA.out).put (x := x) (y := (a : Int)) (by simpa using hown7) hg7 (hv7.imp id fun h => by simpa using h) ⟨_, hm8⟩ hg8 (fun u hu k hk => by
            simp only [List.mem_cons, List.not_mem_nil, or_false] at hu
            rw [SZA.out]
            rcases hu with rfl | rfl
            · have := (HOU.out.lt k hk).2; omega
            · have := (HOL.out.lt k hk).2; omega)).congr RN.out)
          have KU := hid (fun (u : Value) (hu : u ∈ [u6, Value.slice (some ⟨b, off, none⟩) (G a).length lcap']) (B' m : Nat) (zs : List Value) (ho : wr.ownsRow B' 55 1 u m zs) (hB : mb < B') => show w8.ownsRow B' 55 1 u m zs from by
            have h1 := own_below ho HBA.out
            have h2 := h1.kept hg7 (by
              rcases MR.out.away x u hu with e | e
              · cases hu2 : u.ownBlock with
                | none => exact .inl rfl
                | some k => rw [e]; exact .inr (by simp)
              · exact .inr (fun h => e h.symm))
            refine h2.kept hg8 ?_
            cases hu2 : u.ownBlock with
            | none => exact .inl rfl
            | some k => exact .inr (fun h => by have h3 := (ho.lt k hu2).1; have h4 : k = mb := by simpa using h
                                                omega))
          have U8 := hid (KU.out _ (by simp) _ _ _ HOU.out (by omega))
          have L8 := hid (KU.out _ (by simp) _ _ _ HOL.out (by have := HSM.out; omega))
          have N8 := hid (((HNX.out.trans (HBA.out.mono (by have := HSR.out; omega))).grown hg7 (by have h1 := HSR.out; have h2 := SZA.out; omega) (fun k hk => by have := (RX.out.lt k hk).1; omega)).grown hg8 (by have h1 := hg7.size; have h2 := SZA.out; have h3 := HSR.out; omega) (fun k hk => by cases hk; exact Nat.le_refl _))
          clear hown7 hg7 hv7 hm8 hg8
          go_wp2_with fail
          go_roundw
          case rel => exact ⟨j + 1, n' + 1, _, by have := HLJ.out; omega, by go_num, MR8.out, by have := HNN.out; omega, U8.out, L8.out, N8.out⟩
          case measure => have := HLJ.out; simp [intOf]; omega
        · have hje : (G a).length ≤ j := by omega
          have MRE := hid ((hmr.congr (fun s => rowsJ_end hje s)).seen (vs := [u6]) (fun s u hu => hmr.away s u (by simp only [List.mem_cons, List.not_mem_nil, or_false] at hu ⊢; exact .inl hu)))
          have HOU := hid hou
          have HNX := hid hnx
          have HNN := hid (show n' ≤ (a + 1) * 65536 by have := GA.out; omega)
          clear hmr hou hol hnx hje hn
          go_wp2_with fail
          go_roundw
          case rel => exact ⟨a + 1, n', f', by have := HLT.out; omega, by go_num, HOU.out, MRE.out, HNN.out, HNX.out⟩
          case measure => have := HLT.out; simp [intOf]; omega
    · have hae : a = ats.length := by omega
      have FB := hid (flat_bound (G := G) GB.out ats.length (Nat.le_refl _))
      rw [hae] at hown hmr
      have RS := RdE.of_owns hown (by have := FB.out; omega)
      have AO := hid (aorder_any _ _ wo RS (by have := FB.out; omega))
      obtain ⟨p, hp⟩ := hmr.map
      have HP := hid hp
      have HRW := hid hmr.rows
      have NXO := hid hnx
      have HRB := hid (fun s => rowsN_bound G ats.length s)
      have HRM := hid (fun s (x : Int) (h : x ∈ rowsN G ats.length s) => show ∃ b : Nat, x = (b : Int) ∧ b < ats.length from by
        unfold rowsN at h
        obtain ⟨b, hb, rfl⟩ := List.mem_map.1 h
        exact ⟨b, rfl, List.mem_range.1 (List.mem_filter.1 hb).1⟩)
      have BG := hid (fun ys (h : IsOrd ys (· ∈ (List.range ats.length).flatMap G)) => show bndG G ats.length = ys.flatMap fun s => (rowsN G ats.length s).map fun b => (s, bit b.toNat) from by
        unfold bndG
        rw [(ordS_ord _).uniq h fun _ => Iff.rfl])
      clear hown hmr hnx hae RS hp q0 q1 ha
      go_wp2_with fail
      refine AO.out.mono ?_
      rintro e w6 ⟨ov, ys, rfl, hoo, hord, hyl, hb6⟩
      have BGE := hid (BG.out ys hord)
      have HYL := hid (Nat.le_trans hyl FB.out)
      have ROW := RdE.of_owns hoo (by have := HYL.out; omega)
      obtain ⟨oo, ocap, rfl, -, hoc⟩ := ROW.split
      have OC := hid hoc
      have P6 := hid (HP.out.below hb6)
      have R6 := hid (fun s => RdE.of_owns (own_below (HRW.out s) hb6) (by have := HRB.out s; omega))
      have D6 := hid (show Below w0.heap.size w0 w6 from D3.out.trans ((NXO.out.trans (hb6.mono (by obtain h := NXO.out.size; rw [HS3.out] at h; exact h))).mono (by have h := D3.out.size; have h2 := HS3.out; omega)))
      generalize rowsN G ats.length = RN at *
      clear hoo hord hyl hb6 ROW hoc
      go_wp2_with fail
      go_loopw [14, 60] (fun u i wr => ∃ k : Nat, k ≤ ys.length ∧ i = .int .i64 k ∧ wr.ownsRow w6.heap.size 57 2 u ((ys.take k).flatMap fun s => (RN s).map fun b => (s, bit b.toNat)).length (((ys.take k).flatMap fun s => (RN s).map fun b => (s, bit b.toNat)).flatMap cF) ∧ Below w6.heap.size w6 wr) (fun _ i _ => ys.length - (intOf i).toNat)
      case atStart => exact ⟨0, Nat.zero_le _, rfl, World.ownsRow_nil _ _ _ _, Below.refl _ _⟩
      case round =>
        obtain ⟨wp, rfl⟩ : ∃ wp : World, wp = wr := ⟨_, rfl⟩
        obtain ⟨k, hk, rfl, hown, hnx⟩ := hrel
        have hsz := hnx.size
        have k0 : (0 : Int) ≤ (k : Int) := by omega
        have kn : (k : Int) ≤ 1000000 := by have := HYL.out; have := hm.out; omega
        by_cases hlk : k < ys.length
        · obtain ⟨x, hx⟩ := get_some hlk
          obtain ⟨b, off, rfl, hd⟩ := OC.out k x hx
          have e0 := hd wp hnx
          unfold enc at e0
          obtain ⟨fo, fcap, hfx, -, hfc⟩ := (R6.out x).split
          have FC := hid hfc
          have PK := hid (P6.out.below hnx)
          have TN := hid (take_next hx)
          have HLK := hid hlk
          have HO := hid hown
          have HNX := hid hnx
          have RB := hid (HRB.out x)
          have RM := hid (HRM.out x)
          obtain ⟨pre, hpre⟩ : ∃ pre, ((ys.take k).flatMap fun s => (RN s).map fun b => (s, bit b.toNat)) = pre := ⟨_, rfl⟩
          have HPL := hid (show pre.length ≤ k * 16 by
            rw [← hpre]
            have : ∀ l : List S, (l.flatMap fun s => (RN s).map fun b => (s, bit b.toNat)).length ≤ l.length * 16 := by
              intro l
              induction l with
              | nil => simp
              | cons y l ih =>
                rw [List.flatMap_cons, List.length_append, List.length_map, List.length_cons]
                have h1 := HRB.out y
                have h2 := hm.out
                omega
            have h2 := this (ys.take k)
            have h3 := List.length_take_le k ys
            omega)
          have NXT := hid (show ((ys.take (k + 1)).flatMap fun s => (RN s).map fun b => (s, bit b.toNat)) = pre ++ (RN x).map fun b => (x, bit b.toNat) by rw [TN.out, List.flatMap_append, hpre]; simp)
          rw [hpre] at HO
          clear hown hnx hd hx hfc hlk hpre hk
          obtain ⟨L, hL⟩ : ∃ L, RN x = L := ⟨_, rfl⟩
          rw [hL] at hfx FC RB RM NXT
          go_wp2_with (at_lookup; refine wpList_glook (E := setKI) (z := .slice none 0 0) (f := f) (p := p) (n := n) (b := mb) (e := 37) rfl _ _ 130 rfl undMapI (Tryz.zeroValue37 _) rfl PK.out x rfl ?_; rw [hfx])
          clear hL
          go_loopw [14, 68] (fun u i wr => ∃ j : Nat, j ≤ L.length ∧ i = .int .i64 j ∧ wr.ownsRow w6.heap.size 57 2 u (pre ++ (L.take j).map fun b => (x, bit b.toNat)).length ((pre ++ (L.take j).map fun b => (x, bit b.toNat)).flatMap cF) ∧ Below w6.heap.size w6 wr) (fun _ i _ => L.length - (intOf i).toNat)
          case atStart => exact ⟨0, Nat.zero_le _, rfl, by rw [List.take_zero, List.map_nil, List.append_nil]; exact HO.out, HNX.out⟩
          case round =>
            obtain ⟨j, hj, rfl, hown, hnx⟩ := hrel
            have hszr := hnx.size
            have j0 : (0 : Int) ≤ (j : Int) := by omega
            have jn : (j : Int) ≤ 100 := by have := RB.out; have := hm.out; omega
            by_cases hlj : j < L.length
            · obtain ⟨y, hy⟩ := get_some hlj
              obtain ⟨q, rfl, hq⟩ := RM.out y (List.mem_of_getElem? hy)
              obtain ⟨b2, off2, rfl, hd2⟩ := FC.out j _ hy
              have e1 := hd2 wr hnx
              unfold encJ at e1
              have q0 : (0 : Int) ≤ (q : Int) := by omega
              have q1 : (q : Int) < 32 := by have := hm.out; omega
              have SNX := hid (show (pre ++ (L.take (j + 1)).map fun b => (x, bit b.toNat)) = (pre ++ (L.take j).map fun b => (x, bit b.toNat)) ++ [(x, 1#32 <<< q)] by
                rw [take_next hy, List.map_append, ← List.append_assoc]; rfl)
              obtain ⟨out, hout⟩ : ∃ out, (pre ++ (L.take j).map fun b => (x, bit b.toNat)) = out := ⟨_, rfl⟩
              have OLE := hid (show out.length ≤ 100000000 by
                rw [← hout, List.length_append, List.length_map]
                have h1 := HPL.out
                have h2 := List.length_take_le j L
                have h3 := HYL.out
                have h4 := hm.out
                omega)
              rw [hout] at hown SNX
              have HLJ := hid hlj
              have OW := hid hown
              have NXW := hid hnx
              have hle : out.length < 17592186044416 := by have := OLE.out; omega
              clear hown hnx hd2 hy hlj hout hj
              go_wp2_with (at_builtin; refine wpList_pushC rfl _ _ 58 rfl w6.heap.size 57 (.agg #[.int .u32 0, .int .u32 0]) 2 8 undFDs infoFD rfl (by decide) (by decide) cF cF_length cF_one _ out rfl (OW.out.alloc _) ⟨wr.heap.size, 0, none⟩ (x, 1#32 <<< q) rfl (cells_newF _ _) (by have := OLE.out; omega) (by simp; omega) ?_)
              intro v' w7 hown' hgrow
              have N7 := hid (below_push NXW.out hszr OW.out hgrow)
              have O7 := hid (show w7.ownsRow w6.heap.size 57 2 v' (pre ++ (L.take (j + 1)).map fun b => (x, bit b.toNat)).length ((pre ++ (L.take (j + 1)).map fun b => (x, bit b.toNat)).flatMap cF) by rw [SNX.out]; simpa using hown')
              clear hown' hgrow
              go_wp2_with fail
              go_roundw
              case rel => exact ⟨j + 1, by have := HLJ.out; omega, by go_num, O7.out, N7.out⟩
              case measure => have := HLJ.out; simp [intOf]; omega
            · have hje : L.length ≤ j := by omega
              rw [List.take_of_length_le hje, ← NXT.out] at hown
              have OW := hid hown
              have NXW := hid hnx
              clear hown hnx hje
              go_wp2_with fail
              go_roundw
              case rel => exact ⟨k + 1, by have := HLK.out; omega, by go_num, OW.out, NXW.out⟩
              case measure => have := HLK.out; simp [intOf]; omega
        · have hke : ys.length ≤ k := by omega
          rw [List.take_of_length_le hke, ← BGE.out] at hown
          have BL := hid (show (bndG G ats.length).length ≤ 100000000 by
            rw [BGE.out]
            have : ∀ l : List S, (l.flatMap fun s => (RN s).map fun b => (s, bit b.toNat)).length ≤ l.length * 16 := by
              intro l
              induction l with
              | nil => simp
              | cons y l ih =>
                rw [List.flatMap_cons, List.length_append, List.length_map, List.length_cons]
                have h1 := HRB.out y
                have h2 := hm.out
                omega
            have h2 := this ys
            have h3 := HYL.out
            have h4 := hm.out
            omega)
          have RF := hid (RdC.of_owns cF_length hown (by have := BL.out; omega))
          have BF := hid (B0.out.trans ((D6.out.trans (hnx.mono D6.out.size)).mono hsz0))
          clear hown hnx hke
          go_wp2_with fail
          go_ret2
          exact ⟨_, rfl, RF.out, BF.out⟩

end Go.Proofs.YtgahpgmagfngfaaGreatDoor

