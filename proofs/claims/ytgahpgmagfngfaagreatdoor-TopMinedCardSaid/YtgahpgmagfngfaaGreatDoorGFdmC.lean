/- Texts that belong together, in one file. -/
import Derived.Test.YtgahpgmagfngfaaGreatDoorGFdmA
import Derived.Test.YtgahpgmagfngfaaGreatDoorGFdmB
import Derived.Test.YtgahpgmagfngfaaGreatDoorGKm3
import Derived.Test.YtgahpgmagfngfaaGreatDoorRefSubs
import Derived.Test.YtgahpgmagfngfaaGreatDoorGMid
import Derived.Test.YtgahpgmagfngfaaGreatDoorGKm2
/- Plain laws: the order of dependencies, insertion, and the order of all the minimal dependencies. No program of its own. -/
namespace Go.Proofs.YtgahpgmagfngfaaGreatDoor
open Go.RowKit
set_option linter.unusedVariables false

/-- A dependency comes before another one. -/
def befF (x y : F) : Prop := bef x.1 y.1 ∨ (x.1 = y.1 ∧ iv x.2 < iv y.2)
instance (x y : F) : Decidable (befF x y) := by unfold befF; exact inferInstance
theorem befF_asymm {x y : F} (h : befF x y) : ¬ befF y x := by
  rintro (k | ⟨k, k2⟩)
  · rcases h with h | ⟨h, -⟩
    · exact bef_asymm h k
    · rw [h] at k; exact bef_irrefl _ k
  · rcases h with h | ⟨h, h2⟩
    · rw [k] at h; exact bef_irrefl _ h
    · omega
theorem ordF_uniq : ∀ {l m : List F}, l.Pairwise befF → m.Pairwise befF → (∀ f, f ∈ l ↔ f ∈ m) → l = m := by
  intro l
  induction l with
  | nil =>
    intro m _ _ h
    cases m with
    | nil => rfl
    | cons y m => exact absurd ((h y).2 (by simp)) (by simp)
  | cons x l ih =>
    intro m hl hm h
    cases m with
    | nil => exact absurd ((h x).1 (by simp)) (by simp)
    | cons y m =>
      rw [List.pairwise_cons] at hl hm
      have hxy : x = y := by
        rcases List.mem_cons.1 ((h x).1 (by simp)) with e | e
        · exact e
        · rcases List.mem_cons.1 ((h y).2 (by simp)) with e2 | e2
          · exact e2.symm
          · exact absurd (hm.1 x e) (befF_asymm (hl.1 y e2))
      subst hxy
      congr 1
      refine ih hl.2 hm.2 fun f => ?_
      constructor
      · intro hf
        rcases List.mem_cons.1 ((h f).1 (List.mem_cons_of_mem _ hf)) with e | e
        · subst e; exact absurd (hl.1 f hf) (fun k => befF_asymm k k)
        · exact e
      · intro hf
        rcases List.mem_cons.1 ((h f).2 (List.mem_cons_of_mem _ hf)) with e | e
        · subst e; exact absurd (hm.1 f hf) (fun k => befF_asymm k k)
        · exact e
theorem iv_bitN {b : Nat} (h : b < 32) : iv (bit b) = ((2 ^ b : Nat) : Int) := by unfold bit; exact iv_bit h
theorem mem_rowsN {G : Nat → List S} {m : Nat} {s : S} {b : Int} : b ∈ rowsN G m s ↔ ∃ k : Nat, k < m ∧ s ∈ G k ∧ b = (k : Int) := by
  unfold rowsN
  rw [List.mem_map]
  constructor
  · rintro ⟨k, hk, rfl⟩
    rw [List.mem_filter, List.mem_range, decide_eq_true_iff] at hk
    exact ⟨k, hk.1, hk.2, rfl⟩
  · rintro ⟨k, h1, h2, rfl⟩
    exact ⟨k, by rw [List.mem_filter, List.mem_range, decide_eq_true_iff]; exact ⟨h1, h2⟩, rfl⟩
theorem rowsN_asc (G : Nat → List S) (m : Nat) (s : S) : (rowsN G m s).Pairwise (· < ·) := by
  unfold rowsN
  rw [List.pairwise_map]
  exact (List.Pairwise.filter _ List.pairwise_lt_range).imp fun h => by omega
theorem bndG_mem {G : Nat → List S} {m : Nat} {f : F} : f ∈ bndG G m ↔ ∃ k : Nat, k < m ∧ f.1 ∈ G k ∧ f.2 = bit k := by
  unfold bndG
  rw [List.mem_flatMap]
  constructor
  · rintro ⟨s, hs, hf⟩
    rw [List.mem_map] at hf
    obtain ⟨b, hb, rfl⟩ := hf
    obtain ⟨k, h1, h2, rfl⟩ := mem_rowsN.1 hb
    exact ⟨k, h1, h2, by simp⟩
  · rintro ⟨k, h1, h2, h3⟩
    refine ⟨f.1, ((ordS_ord _).2 _).2 (List.mem_flatMap.2 ⟨k, List.mem_range.2 h1, h2⟩), List.mem_map.2 ⟨(k : Int), mem_rowsN.2 ⟨k, h1, h2, rfl⟩, ?_⟩⟩
    exact Prod.ext rfl (by simp [h3])
theorem bndG_ord {G : Nat → List S} {m : Nat} (hm : m ≤ 32) : (bndG G m).Pairwise befF := by
  unfold bndG
  generalize hL : (List.range m).flatMap G = L
  have hp := (ordS_ord L).1
  generalize ordS L = us at hp
  clear hL L
  induction us with
  | nil => exact List.Pairwise.nil
  | cons s us ih =>
    rw [List.pairwise_cons] at hp
    rw [List.flatMap_cons, List.pairwise_append]
    refine ⟨?_, ih hp.2, ?_⟩
    · rw [List.pairwise_map]
      refine (List.Pairwise.and_mem.1 (rowsN_asc G m s)).imp ?_
      rintro a b ⟨ha, hb, hlt⟩
      obtain ⟨i, hi, -, rfl⟩ := mem_rowsN.1 ha
      obtain ⟨j, hj, -, rfl⟩ := mem_rowsN.1 hb
      refine .inr ⟨rfl, ?_⟩
      rw [Int.toNat_natCast, Int.toNat_natCast, iv_bitN (by omega), iv_bitN (by omega)]
      have : 2 ^ i < 2 ^ j := Nat.pow_lt_pow_right (by decide) (by omega)
      omega
    · intro x hx y hy
      rw [List.mem_map] at hx
      obtain ⟨b, -, rfl⟩ := hx
      rw [List.mem_flatMap] at hy
      obtain ⟨t, ht, hy⟩ := hy
      rw [List.mem_map] at hy
      obtain ⟨c, -, rfl⟩ := hy
      exact .inl (hp.1 t ht)

end Go.Proofs.YtgahpgmagfngfaaGreatDoor


/- Plain laws of mined dependencies: left sides are transversals, evidence, certificates, what follows. No program of its own. -/
namespace Go.Proofs.YtgahpgmagfngfaaGreatDoor
open Go.RowKit
set_option linter.unusedVariables false

def othS (m a : Nat) : S := fullN m &&& ~~~ bit a
theorem sub_oth {m a : Nat} (ha : a < 32) {s : S} : sub s (othS m a) ↔ sub s (fullN m) ∧ s.getLsbD a = false := andNot_zero_iff.symm.trans (sub_others ha)
def edgS (o : S) (qs : List S) : List S := qs.map fun p => o &&& ~~~ p
theorem hits_o {o s : S} {qs : List S} (hs : sub s o) : hitsS (edgS o qs) s = true ↔ ∀ p ∈ qs, ¬ sub s p := by
  rw [hits_iff]
  unfold edgS
  have key : ∀ p : S, (o &&& ~~~ p) &&& s = 0#32 ↔ sub s p := by
    intro p
    rw [and_zero_iff]
    constructor
    · intro h i hi hb
      cases hp : p.getLsbD i with
      | true => rfl
      | false =>
        have := h i hi (by rw [BitVec.getLsbD_and, BitVec.getLsbD_not, hp, hs i hi hb]; simp [hi])
        rw [hb] at this; cases this
    · intro h i hi hb
      cases hx : s.getLsbD i with
      | false => rfl
      | true =>
        have := h i hi hx
        rw [BitVec.getLsbD_and, BitVec.getLsbD_not, this] at hb; simp at hb
  constructor
  · intro h p hp hsp
    exact h _ (List.mem_map.2 ⟨p, hp, rfl⟩) ((key p).2 hsp)
  · intro h x hx hz
    obtain ⟨p, hp, rfl⟩ := List.mem_map.1 hx
    exact h p hp ((key p).1 hz)
theorem min_o_sub {o s : S} {qs : List S} (h : minS (edgS o qs) s = true) : sub s o := by
  obtain ⟨h1, h2⟩ := minS_iff.1 h
  have hs : sub (s &&& o) s := fun i hi hb => by rw [BitVec.getLsbD_and, Bool.and_eq_true] at hb; exact hb.1
  have hh : hitsS (edgS o qs) (s &&& o) = true := by
    rw [hits_iff] at h1 ⊢
    intro x hx e
    refine h1 x hx ?_
    obtain ⟨p, _, rfl⟩ := List.mem_map.1 hx
    rw [and_zero_iff] at e ⊢
    intro i hi hb
    have h3 := e i hi hb
    rw [BitVec.getLsbD_and] at h3 hb
    rw [Bool.and_eq_true] at hb
    rw [hb.1, Bool.and_true] at h3
    exact h3
  have e := h2 _ hs hh
  intro i hi hb
  rw [← e, BitVec.getLsbD_and, Bool.and_eq_true] at hb
  exact hb.2
def avoid (qs : List S) (s : S) : Prop := ∀ p ∈ qs, ¬ sub s p
theorem min_o {o s : S} {qs : List S} : minS (edgS o qs) s = true ↔ sub s o ∧ avoid qs s ∧ ∀ t, sub t s → avoid qs t → t = s := by
  constructor
  · intro h
    have hf := min_o_sub h
    obtain ⟨h1, h2⟩ := minS_iff.1 h
    exact ⟨hf, (hits_o hf).1 h1, fun t ht hp => h2 t ht ((hits_o (sub_trans ht hf)).2 hp)⟩
  · rintro ⟨h1, h2, h3⟩
    exact minS_iff.2 ⟨(hits_o h1).2 h2, fun t ht hh => h3 t ht ((hits_o (sub_trans ht h1)).1 hh)⟩
/-- The minimal sets within o that none of qs contains. -/
def keyO (o : S) (qs : List S) : List S := allS (edgS o qs)
theorem keyO_ord (o : S) (qs : List S) : IsOrd (keyO o qs) (fun s => sub s o ∧ avoid qs s ∧ ∀ t, sub t s → avoid qs t → t = s) := (allS_ord _).congr fun s => min_o
/-- Whoever tries all the sets within o and keeps the minimal ones that avoid qs. -/
theorem keyO_try {o : S} {qs ys : List S} (h : ∀ s, s ∈ ys ↔ sub s o ∧ avoid qs s) : keepS downR ys = keyO o qs := by
  refine (min_ord ys).uniq (keyO_ord o qs) fun s => ?_
  unfold isMin
  constructor
  · rintro ⟨h1, h2⟩
    obtain ⟨a, b⟩ := (h s).1 h1
    exact ⟨a, b, fun t ht hp => h2 t ((h t).2 ⟨sub_trans ht a, hp⟩) ht⟩
  · rintro ⟨a, b, c⟩
    exact ⟨(h s).2 ⟨a, b⟩, fun f hf hs => c f hs ((h f).1 hf).2⟩
theorem det_wo {m a : Nat} {rs : List Row3} (hw : Wide m rs) (h32 : m ≤ 32) (ha : a < m) {s : S} (hs : sub s (fullN m)) : detB rs a s = true ↔ avoid (withoutS (pairsS rs) a) s := by
  unfold detB avoid
  rw [satB_iff hw h32 hs (bit_full ha h32)]
  constructor
  · intro h p hp hsp
    rw [mem_withoutS] at hp
    have := (bit_le (by omega)).1 (h p hp.1 hsp)
    rw [hp.2] at this; cases this
  · intro h p hp hsp
    refine (bit_le (by omega)).2 ?_
    cases hb : p.getLsbD a with
    | true => rfl
    | false => exact absurd hsp (h p (mem_withoutS.2 ⟨hp, hb⟩))
theorem for_key {m a : Nat} {rs : List Row3} (hw : Wide m rs) (h32 : m ≤ 32) (ha : a < m) : forL m rs a = keyO (othS m a) (withoutS (pairsS rs) a) := by
  unfold forL
  refine keyO_try fun s => ?_
  rw [mem_lstB, forB_iff (by omega), sub_oth (by omega)]
  constructor
  · rintro ⟨h1, h2, h3⟩
    exact ⟨⟨h1, h2⟩, (det_wo hw h32 ha h1).1 h3⟩
  · rintro ⟨⟨h1, h2⟩, h3⟩
    exact ⟨h1, h2, (det_wo hw h32 ha h1).2 h3⟩
theorem mem_allR {t : T3} (h : fE t = 0) {f : F} : f ∈ allR t ↔ ∃ a : Nat, a < t.2.1.length ∧ f.1 ∈ forL t.2.1.length t.2.2 a ∧ f.2 = bit a := by
  have h10 := (fE_ok h).2.1
  unfold allR bndL
  rw [if_pos h, bndG_mem]
  refine exists_congr fun a => and_congr_right fun ha => and_congr_left fun _ => ?_
  rw [forK_all (by omega) (by omega) (by omega)]

end Go.Proofs.YtgahpgmagfngfaaGreatDoor


/- The walks of the reference: drossref28.Error, Few, drossref08.Satisfies, drossref28.determines. -/
namespace Go.Proofs.YtgahpgmagfngfaaGreatDoor
open Go.RowKit
set_option linter.unusedVariables false


end Go.Proofs.YtgahpgmagfngfaaGreatDoor


/- The walks of drossref08.Satisfies, drossref28.determines. -/
namespace Go.Proofs.YtgahpgmagfngfaaGreatDoor
open Go.RowKit
set_option linter.unusedVariables false


attribute [local irreducible] Go.wpQuiet


end Go.Proofs.YtgahpgmagfngfaaGreatDoor


/- The walk of drossref28.For. -/
namespace Go.Proofs.YtgahpgmagfngfaaGreatDoor
open Go.RowKit
set_option linter.unusedVariables false


attribute [local irreducible] Go.wpQuiet

end Go.Proofs.YtgahpgmagfngfaaGreatDoor


/- The walks of drossref28.before and Sorted. -/
namespace Go.Proofs.YtgahpgmagfngfaaGreatDoor
open Go.RowKit
set_option linter.unusedVariables false




end Go.Proofs.YtgahpgmagfngfaaGreatDoor


/- The walks of drossref28.All and Bounded. -/
namespace Go.Proofs.YtgahpgmagfngfaaGreatDoor
open Go.RowKit
set_option linter.unusedVariables false





end Go.Proofs.YtgahpgmagfngfaaGreatDoor


/- The walks of drossref28.witness and first. -/
namespace Go.Proofs.YtgahpgmagfngfaaGreatDoor
open Go.RowKit
set_option linter.unusedVariables false

attribute [local irreducible] Go.wpQuiet


end Go.Proofs.YtgahpgmagfngfaaGreatDoor


/- The walk of drossref28.Evidence. -/
namespace Go.Proofs.YtgahpgmagfngfaaGreatDoor
open Go.RowKit
set_option linter.unusedVariables false



end Go.Proofs.YtgahpgmagfngfaaGreatDoor


/- The walks of Same over witnesses and over dependencies, and of Few. -/
namespace Go.Proofs.YtgahpgmagfngfaaGreatDoor
open Go.RowKit
set_option linter.unusedVariables false


theorem run_neqF9 (x : F) (w : World) : (binOp .neq 57 (.agg #[.int .u32 (iv x.1), .int .u32 (iv x.2)]) (.agg #[.int .u32 (iv x.1), .int .u32 (iv x.2)])).run Tryz.prog w = .ok (.bool false) w := by
  have u3 := Tryz.underlying55
  have a3 := Tryz.isAgg55
  have z3 := Tryz.sizeOf55
  have hS : Tryz.prog.underlying 57 = some (.struct (Tryz.prog.fieldsOf 57)) := by kernel_rfl
  have hp : Tryz.prog.stoodInHeld 57 = false := by kernel_rfl
  rw [run_neq_struct, show (10000 : Nat) = 9999 + 1 from rfl, run_equalIn_agg w 9999 57 _ _ hS hp]
  simp only [Program.fieldsOf, Tryz.underlying57]
  go_simp
  try simp
set_option maxHeartbeats 1600000 in
theorem fsame9_any (xs : List F) (v u : Value) (w : World) (hv : RdF w v xs) (hu : RdF w u xs) :
    Calls Tryz.prog 16 #[v, u] w fun e w' => e = .returned (.bool true) ∧ Below w.heap.size w w' := by
  obtain ⟨ao, cap, rfl, hl, hc⟩ := hv.split
  obtain ⟨bo, cbp, rfl, -, hd⟩ := hu.split
  have HC := hid hc
  have HD := hid hd
  have hne : ((xs.length : Int) != (xs.length : Int)) = false := by simp
  clear hc hd hv hu
  go_enter Tryz.func16, Tryz.ntmps16
  go_wp2_with fail
  go_loopw [5] (fun i wr => ∃ k : Nat, k ≤ xs.length ∧ i = .int .i64 k ∧ Below w.heap.size w wr) (fun i _ => xs.length - (intOf i).toNat)
  case atStart => exact ⟨0, Nat.zero_le _, rfl, Below.refl _ _⟩
  case round =>
    obtain ⟨k, hk, rfl, hnx⟩ := hrel
    have NX := hid hnx
    by_cases hlt : k < xs.length
    · obtain ⟨x, hx⟩ := get_some hlt
      obtain ⟨b, off, rfl, h1⟩ := HC.out k x hx
      obtain ⟨b', off', rfl, h2⟩ := HD.out k x hx
      obtain ⟨e0, e1⟩ := h1 wr hnx
      obtain ⟨f0, f1⟩ := h2 wr hnx
      have hq := fun w => run_neqF9 x w
      have k0 : (0 : Int) ≤ (k : Int) := by omega
      clear h1 h2 hx hnx
      go_wp2_with fail
      go_quiet (fail)
      go_wp2_with fail
      go_roundw
      case rel => exact ⟨k + 1, by omega, by go_num, below_drewN' NX.out _⟩
      case measure => simp [intOf]; omega
    · clear hnx
      go_wp2_with fail
      go_ret
      exact ⟨rfl, NX.out⟩


end Go.Proofs.YtgahpgmagfngfaaGreatDoor

