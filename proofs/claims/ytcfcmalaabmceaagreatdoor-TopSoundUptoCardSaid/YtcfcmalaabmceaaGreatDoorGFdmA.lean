/- Texts that belong together, in one file. -/
import Derived.Test.YtcfcmalaabmceaaGreatDoorGPtA
import Derived.Test.YtcfcmalaabmceaaGreatDoorGKm3
import Derived.Test.YtcfcmalaabmceaaGreatDoorGPtB
import Derived.Test.YtcfcmalaabmceaaGreatDoorGMid
import Derived.Maps.AppendAt
import Derived.Laws.AppendOwnNone
/- Plain laws of mined dependencies: keys, ranks, products of partitions, minimal left sides. No program of its own. -/
namespace Go.Proofs.YtcfcmalaabmceaaGreatDoor
open Go.RowKit
set_option linter.unusedVariables false

/-- The keys of the rows on a set. -/
def keyOn (rs : List Row3) (s : S) : List KS := rs.map fun r => mkKS (kyB r.2.2 (memN s 32))
theorem keyOn_length (rs : List Row3) (s : S) : (keyOn rs s).length = rs.length := by unfold keyOn; simp
theorem keyOn_at {rs : List Row3} {i : Nat} {r : Row3} (h : rs[i]? = some r) (s : S) : (keyOn rs s)[i]? = some (mkKS (kyB r.2.2 (memN s 32))) := by unfold keyOn; rw [List.getElem?_map, h]; rfl
theorem keyOn_get {rs : List Row3} {i : Nat} {s : S} {k : KS} (h : (keyOn rs s)[i]? = some k) : ∃ r, rs[i]? = some r ∧ k = mkKS (kyB r.2.2 (memN s 32)) := by
  unfold keyOn at h
  rw [List.getElem?_map, Option.map_eq_some_iff] at h
  obtain ⟨r, h1, h2⟩ := h
  exact ⟨r, h1, h2.symm⟩
structure FineR (m : Nat) (rs : List Row3) : Prop where
  wid : Wide m rs
  le : m ≤ 32
  ok : ∀ r ∈ rs, ∀ x ∈ r.2.2, okV x
theorem key_iff {m : Nat} {rs : List Row3} (h : FineR m rs) {r q : Row3} (hr : r ∈ rs) (hq : q ∈ rs) {s : S} (hs : sub s (fullN m)) :
    mkKS (kyB r.2.2 (memN s 32)) = mkKS (kyB q.2.2 (memN s 32)) ↔ sub s (rowsS r.2.2 q.2.2 m) := by
  have hb := sub_full_bits h.le hs
  have lr := h.wid r hr
  have lq := h.wid q hq
  have key : ∀ x ∈ rs, kyB x.2.2 (memN s 32) = keysB (valTo x.2.2 s m) := by
    intro x hx
    have lx := h.wid x hx
    have := kyB_val (xs := x.2.2) (s := s) (by rw [lx]; exact hb) (by have := h.le; omega)
    rw [lx] at this; exact this
  have len : ∀ x ∈ rs, (kyB x.2.2 (memN s 32)).length ≤ maxLen := by
    intro x hx
    have lx := h.wid x hx
    have h1 := kyB_length (xs := x.2.2) (ms := memN s 32) (fun y hy => (h.ok x hx y hy).1) (mem_lt (by rw [lx]; exact hb)) (memN_length s 32)
    exact Nat.le_trans h1 (by decide)
  rw [← agB_sub lr lq h.le hs, agB_eq lr]
  constructor
  · intro e
    have e2 := mkKS_inj (len r hr) (len q hq) e
    rw [key r hr, key q hq] at e2
    exact keysB_inj (fun x hx => h.ok r hr x (valTo_mem (by rw [lr]; exact Nat.le_refl _) hx)) (fun x hx => h.ok q hq x (valTo_mem (by rw [lq]; exact Nat.le_refl _) hx)) (valTo_same _ _ _ _) e2
  · intro e
    rw [key r hr, key q hq, e]
theorem sub_or {a b c : S} : sub (a ||| b) c ↔ sub a c ∧ sub b c := by
  constructor
  · intro h
    exact ⟨sub_trans (sub_or_left a b) h, sub_trans (sub_or_right a b) h⟩
  · rintro ⟨h, k⟩ i hi hb
    rw [BitVec.getLsbD_or, Bool.or_eq_true] at hb
    exact hb.elim (h i hi) (k i hi)
/-! Pairs of labels as keys. -/
/-- Refinement of partitions: dependencies. -/
theorem ref_iff {m : Nat} {rs : List Row3} (h : FineR m rs) {u v : S} (hu : sub u (fullN m)) (hv : sub v (fullN m)) :
    (∀ (i j : Nat) (a b : KS) (a' b' : KS), (keyOn rs u)[i]? = some a → (keyOn rs u)[j]? = some b → (keyOn rs v)[i]? = some a' → (keyOn rs v)[j]? = some b' → a = b → a' = b') ↔ ∀ r ∈ rs, ∀ q ∈ rs, sub u (rowsS r.2.2 q.2.2 m) → sub v (rowsS r.2.2 q.2.2 m) := by
  constructor
  · intro hk r hr q hq hx
    obtain ⟨i, hi⟩ := List.mem_iff_getElem?.1 hr
    obtain ⟨j, hj⟩ := List.mem_iff_getElem?.1 hq
    have := hk i j _ _ _ _ (keyOn_at hi u) (keyOn_at hj u) (keyOn_at hi _) (keyOn_at hj _) ((key_iff h hr hq hu).2 hx)
    rwa [key_iff h hr hq hv] at this
  · intro hk i j x y x' y' h1 h2 h3 h4 e
    obtain ⟨r, hr, rfl⟩ := keyOn_get h1
    obtain ⟨q, hq, rfl⟩ := keyOn_get h2
    rw [keyOn_at hr] at h3
    rw [keyOn_at hq] at h4
    cases h3; cases h4
    rw [key_iff h (List.mem_of_getElem? hr) (List.mem_of_getElem? hq) hu] at e
    rw [key_iff h (List.mem_of_getElem? hr) (List.mem_of_getElem? hq) hv]
    exact hk _ (List.mem_of_getElem? hr) _ (List.mem_of_getElem? hq) e
/-! Selection, one size after the other. -/

end Go.Proofs.YtcfcmalaabmceaaGreatDoor


/- The walks of fdmine.limits, attribute, partition.within, Of. -/
namespace Go.Proofs.YtcfcmalaabmceaaGreatDoor
open Go.RowKit
set_option linter.unusedVariables false

theorem tabE_len {t : T3} (h : tabE t = 0) : t.2.1.length ≤ 16 ∧ t.2.2.length ≤ 1000 := by
  unfold tabE at h
  split at h
  · cases h
  · split at h
    · cases h
    · omega

end Go.Proofs.YtcfcmalaabmceaaGreatDoor


/- The walks of partition.within, Of, Product, Holds. -/
namespace Go.Proofs.YtcfcmalaabmceaaGreatDoor
open Go.RowKit
set_option linter.unusedVariables false

theorem shr64 (s : S) (n : Nat) : (IntKind.u64.wrap (iv s) / 2 ^ n == 0) = shrOk s n := by
  have h1 : IntKind.u64.wrap (iv s) = (s.toNat : Int) := by
    rw [IntKind.wrap_u64]
    have := s.isLt
    unfold iv; omega
  unfold shrOk
  rw [h1, Bool.eq_iff_iff, beq_iff_eq, beq_iff_eq]
  have h2 : ((s.toNat : Int) / 2 ^ n) = ((s.toNat / 2 ^ n : Nat) : Int) := by push_cast; rfl
  rw [h2, ← BitVec.toNat_inj, BitVec.toNat_ushiftRight, Nat.shiftRight_eq_div_pow]
  generalize s.toNat / 2 ^ n = x
  show ((x : Nat) : Int) = 0 ↔ x = 0
  omega
theorem fine_of {t : T3} (h : tabE2 t = 0) (hok : okT t) : FineR t.2.1.length t.2.2 := ⟨fun r hr => ((tabE2_ok h).2.2 r hr).1, by have := (tabE2_ok h).1; omega, hok⟩
set_option maxRecDepth 100000 in
theorem pwithin_any (t : T3) (av rv : Value) (s : S) (w : World) (ht : RdT w av rv t) (h16 : t.2.1.length ≤ 16) :
    Calls Tryz.prog 27 #[.agg #[.string t.1, av, rv], .int .u32 (iv s)] w fun e w' => e = .returned (.bool (shrOk s t.2.1.length)) ∧ Below w.heap.size w w' := by
  have hb0 := below_alloc w (.cells #[.string t.1, av, rv] 35)
  have C3 := hid (fun W h => cells3 (w := w) (a := .string t.1) (b := av) (c := rv) (t := 35) W h)
  have T0 := hid (ht.below hb0)
  obtain ⟨w0, hw0⟩ : ∃ w0 : World, w.alloc (.cells #[.string t.1, av, rv] 35) = w0 := ⟨_, rfl⟩
  rw [hw0] at hb0 C3 T0
  have B0 := hid hb0
  have W0 := hid hw0
  have hsz0 := hb0.size
  clear hb0 hw0
  obtain ⟨t00, t01, t02⟩ := C3.out _ (Below.refl _ _)
  obtain ⟨nm, ats, rs⟩ := t
  obtain ⟨ao, acap, hva, -⟩ := T0.out.1.split
  simp only at hva h16
  subst hva
  show Calls _ _ _ _ fun e w' => e = .returned (.bool (shrOk s ats.length)) ∧ Below w.heap.size w w'
  have a0 : (0 : Int) ≤ (ats.length : Int) := by omega
  have a1 : (ats.length : Int) ≤ 16 := by omega
  have a2 : (ats.length : Int) < 64 := by omega
  clear ht T0
  go_enter Tryz.func27, Tryz.ntmps27
  go_upto_region 1 with fail
  rw [W0.out]
  go_wp2_with fail
  go_ret
  exact ⟨ret_bool (shr64 s ats.length), B0.out⟩



end Go.Proofs.YtcfcmalaabmceaaGreatDoor


/- The walk of partition.Product. -/
namespace Go.Proofs.YtcfcmalaabmceaaGreatDoor
open Go.RowKit
set_option linter.unusedVariables false



end Go.Proofs.YtcfcmalaabmceaaGreatDoor


/- The walks of fdmine's lattice: determines, Level. -/
namespace Go.Proofs.YtcfcmalaabmceaaGreatDoor
open Go.RowKit
set_option linter.unusedVariables false




end Go.Proofs.YtcfcmalaabmceaaGreatDoor


/- The walk of fdmine.climb. -/
namespace Go.Proofs.YtcfcmalaabmceaaGreatDoor
open Go.RowKit
set_option linter.unusedVariables false

def PartOk (w : World) (B : Nat) (v : Value) (cls : List (List Int)) : Prop := ∃ gs : List Gp, RdG w v gs ∧ gs.map (·.2) = cls ∧ FarG B v gs
theorem PartOk.below {w w' : World} {B : Nat} {v : Value} {cls : List (List Int)} (h : PartOk w B v cls) (hb : Below w.heap.size w w') : PartOk w' B v cls := by
  obtain ⟨gs, h1, h2, h3⟩ := h
  exact ⟨gs, h1.below hb, h2, h3⟩
theorem PartOk.set {w : World} {B b : Nat} {v : Value} {cls : List (List Int)} (h : PartOk w B v cls) (hb : b < B) (j : Nat) (x : Value) : PartOk (w.setCell ⟨b, j, none⟩ x) B v cls := by
  obtain ⟨gs, h1, h2, h3⟩ := h
  obtain ⟨f1, f2⟩ := h3 b hb
  exact ⟨gs, ⟨RdE.setFar (p := ⟨b, j, none⟩) h1.1 f1, fun g hg => RdE.setFar (p := ⟨b, j, none⟩) (h1.2 g hg) (f2 g hg)⟩, h2, h3⟩
theorem PartOk.mono {w : World} {B B' : Nat} {v : Value} {cls : List (List Int)} (h : PartOk w B v cls) (hb : B' ≤ B) : PartOk w B' v cls := by
  obtain ⟨gs, h1, h2, h3⟩ := h
  exact ⟨gs, h1, h2, fun j hj => h3 j (by omega)⟩

/-! A set without its least member, and that. -/


end Go.Proofs.YtcfcmalaabmceaaGreatDoor


/- The walk of fdmine's minimal. -/
namespace Go.Proofs.YtcfcmalaabmceaaGreatDoor
open Go.RowKit
set_option linter.unusedVariables false



end Go.Proofs.YtcfcmalaabmceaaGreatDoor


/- The walk of fdmine.For. -/
namespace Go.Proofs.YtcfcmalaabmceaaGreatDoor
open Go.RowKit
set_option linter.unusedVariables false



end Go.Proofs.YtcfcmalaabmceaaGreatDoor


/- A map of the call's own from sets to rows of numbers, each a row of the call's own. -/
namespace Go.Proofs.YtcfcmalaabmceaaGreatDoor
open Go.RowKit
set_option linter.unusedVariables false

noncomputable abbrev setKI := setKeys (P := Tryz.prog) (k := 47) undSetK
structure OwnMR (w : World) (B mb n : Nat) (f : S → Value) (R : S → List Int) (us : List Value) : Prop where
  map : ∃ p, OwnG setKI (.slice none 0 0) w mb n f p
  mlt : mb < B
  rows : ∀ s, w.ownsRow B 3 1 (f s) (R s).length ((R s).map encJ)
  apart : ∀ s s', s ≠ s' → (f s).ownBlock = none ∨ (f s).ownBlock ≠ (f s').ownBlock
  away : ∀ s, ∀ u ∈ us, (f s).ownBlock = none ∨ (f s).ownBlock ≠ u.ownBlock
variable {w w' w1 w2 : World} {B mb n : Nat} {f : S → Value} {R : S → List Int} {us : List Value}
theorem OwnMR.below (h : OwnMR w B mb n f R us) (hb : Below w.heap.size w w') : OwnMR w' B mb n f R us := by
  obtain ⟨p, hp⟩ := h.map
  exact ⟨⟨p, hp.below hb⟩, h.mlt, fun s => own_below (h.rows s) hb, h.apart, h.away⟩
theorem OwnMR.grown {row : Option Nat} (h : OwnMR w B mb n f R us) (hg : w.grownBy w' row) (hr : ∀ j, row = some j → B ≤ j ∧ ∀ s, (f s).ownBlock ≠ some j) : OwnMR w' B mb n f R us := by
  obtain ⟨p, hp⟩ := h.map
  refine ⟨⟨p, hp.kept hg fun e => ?_⟩, h.mlt, fun s => (h.rows s).kept hg ?_, h.apart, h.away⟩
  · have h1 := (hr mb e.symm).1
    have h2 := h.mlt
    omega
  · cases hu : (f s).ownBlock with
    | none => exact .inl rfl
    | some j => exact .inr fun e => (hr j e.symm).2 s hu
theorem OwnMR.mono {n' : Nat} (h : OwnMR w B mb n f R us) (hn : n ≤ n') : OwnMR w B mb n' f R us := by
  obtain ⟨p, hp⟩ := h.map
  exact ⟨⟨p, hp.mono hn⟩, h.mlt, h.rows, h.apart, h.away⟩
theorem OwnMR.congr {R' : S → List Int} (h : OwnMR w B mb n f R us) (hR : ∀ s, R s = R' s) : OwnMR w B mb n f R' us := ⟨h.map, h.mlt, fun s => by rw [← hR s]; exact h.rows s, h.apart, h.away⟩
theorem OwnMR.made (w : World) (B : Nat) (hB : w.heap.size < B) (us : List Value) : OwnMR (w.alloc (.map #[] 0)) B w.heap.size 0 (fun _ => .slice none 0 0) (fun _ => []) us :=
  ⟨⟨_, OwnG.made setKI _ w⟩, hB, fun _ => World.ownsRow_nil _ _ _ _, fun _ _ _ => .inl rfl, fun _ _ _ => .inl rfl⟩
theorem OwnMR.put {x : S} {v' : Value} {y : Int} {n' : Nat} (h : OwnMR w B mb n f R us) (ho : w1.ownsRow B 3 1 v' (R x ++ [y]).length ((R x ++ [y]).map encJ)) (hg : w.grownBy w1 (f x).ownBlock)
    (hv : v'.ownBlock = (f x).ownBlock ∨ v'.ownBlock = some w.heap.size) (hm : ∃ p, OwnG setKI (.slice none 0 0) w2 mb n' (updG f x v') p) (hg2 : w1.grownBy w2 (some mb))
    (hus : ∀ u ∈ us, ∀ j, u.ownBlock = some j → j < w.heap.size) : OwnMR w2 B mb n' (updG f x v') (updG R x (R x ++ [y])) us := by
  have hB : ∀ {u : Value} {m : Nat} {zs : List Value} {w : World}, w.ownsRow B 3 1 u m zs → u.ownBlock = none ∨ u.ownBlock ≠ some mb := by
    intro u m zs w hu
    cases e : u.ownBlock with
    | none => exact .inl rfl
    | some j =>
      refine .inr fun e2 => ?_
      have h1 := (hu.lt j e).1
      have h2 := h.mlt
      have h3 : j = mb := by simpa using e2
      omega
  have hlt : ∀ s j, (f s).ownBlock = some j → j < w.heap.size := fun s j e => ((h.rows s).lt j e).2
  refine ⟨hm, h.mlt, fun s => ?_, fun s s' hne => ?_, fun s u hu => ?_⟩
  · unfold updG
    by_cases e : s = x
    · rw [if_pos e, if_pos e]
      exact ho.kept hg2 (hB ho)
    · rw [if_neg e, if_neg e]
      have h1 := (h.rows s).kept hg (h.apart s x e)
      exact h1.kept hg2 (hB h1)
  · unfold updG
    by_cases e : s = x
    · subst e
      rw [if_pos rfl, if_neg (fun e => hne e.symm)]
      rcases hv with e1 | e1
      · rw [e1]; exact h.apart s s' hne
      · refine .inr fun e2 => ?_
        have := hlt s' w.heap.size (by rw [← e2, e1])
        omega
    · rw [if_neg e]
      by_cases e' : s' = x
      · subst e'
        rw [if_pos rfl]
        rcases hv with e1 | e1
        · rw [e1]; exact h.apart s s' hne
        · cases hs : (f s).ownBlock with
          | none => exact .inl rfl
          | some j =>
            refine .inr fun e2 => ?_
            have := hlt s j hs
            rw [e1] at e2
            have : j = w.heap.size := by simpa using e2
            omega
      · rw [if_neg e']; exact h.apart s s' hne
  · unfold updG
    by_cases e : s = x
    · subst e
      rw [if_pos rfl]
      rcases hv with e1 | e1
      · rw [e1]; exact h.away s u hu
      · refine .inr fun e2 => ?_
        have := hus u hu w.heap.size (by rw [← e2, e1])
        omega
    · rw [if_neg e]; exact h.away s u hu

/-! Plain: the rows of the map. -/

end Go.Proofs.YtcfcmalaabmceaaGreatDoor


/- The walk of fdmine.Bounded. -/
namespace Go.Proofs.YtcfcmalaabmceaaGreatDoor
open Go.RowKit
set_option linter.unusedVariables false



end Go.Proofs.YtcfcmalaabmceaaGreatDoor

