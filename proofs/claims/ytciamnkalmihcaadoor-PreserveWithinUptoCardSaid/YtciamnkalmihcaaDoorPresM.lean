/- Plain laws of the statements of chapter 22, and its examples, reckoned. No program. -/
import Derived.Test.YtciamnkalmihcaaDoorPresL
import Derived.Test.YtciamnkalmihcaaDoorW2L
import Derived.Test.YtciamnkalmihcaaDoorChk
import Derived.Test.YtciamnkalmihcaaDoorSubs
namespace Go.Proofs.YtciamnkalmihcaaDoor

/-! The subsets of a set, as one list. -/
def subsS (s : S) : List S := if pop s ≤ 12 then ordS (((List.range 4294967296).map (BitVec.ofNat 32)).filter fun x => decide (sub x s)) else []
theorem subsS_P (s : S) : SubsP s (subsS s) := by
  refine ⟨fun h => by unfold subsS; rw [if_neg (by omega)], fun h => ?_⟩
  unfold subsS
  rw [if_pos h]
  refine (ordS_ord _).congr fun x => ?_
  rw [List.mem_filter, decide_eq_true_iff]
  refine ⟨fun k => k.2, fun k => ⟨List.mem_map.2 ⟨x.toNat, List.mem_range.2 x.isLt, by simp⟩, k⟩⟩
attribute [irreducible] subsS
theorem mem_subsS {s : S} (h : pop s ≤ 12) (x : S) : x ∈ subsS s ↔ sub x s := ((subsS_P s).2 h).2 x
theorem subsS_of {s : S} {ys : List S} (h : SubsP s ys) : ys = subsS s := h.uniq (subsS_P s)
theorem subsS_le {s : S} (h : pop s ≤ 12) {x : S} (hx : x ∈ subsS s) : sub x s := (mem_subsS h x).1 hx

/-! The projection. -/
theorem w2_wL {fs : List F} {s : S} {ys : List S} (hy : ∀ x ∈ ys, sub x s) : W2 s (wL fs s ys) := fun f hf => by
  obtain ⟨h1, h2, _⟩ := wL_sound hy hf; exact ⟨h1, h2⟩
theorem w2_proj {fs : List F} {s : S} {ys : List S} (hy : ∀ x ∈ ys, sub x s) : W2 s (projS fs s ys) :=
  w2_merge (w2_sub (w2_wL hy) fun f hf => (dropS_spec _ (wL fs s ys) 0 (Nat.le_refl _) (Nat.zero_le _) (by intro j hj; omega)).2.1.subset hf)
theorem proj_within {fs : List F} {s : S} {ys : List S} (hy : ∀ x, x ∈ ys ↔ sub x s) {f : F} (hf : f ∈ projS fs s ys) : sub f.2 (closeS fs f.1 &&& s) := by
  have h1 := (w2_proj (fun x hx => (hy x).1 hx)) f hf
  have h2 := (closeS_cl (projS fs s ys) f.1).2.1 f hf (closeS_cl _ f.1).1
  rwa [proj_close hy h1.1] at h2
theorem proj_sound {fs : List F} {s : S} {ys : List S} (hy : ∀ x, x ∈ ys ↔ sub x s) {f : F} (hf : f ∈ projS fs s ys) : impS fs f = true := by
  unfold impS; rw [decide_eq_true_iff]; exact sub_trans (proj_within hy hf) (and_sub_left _ _)
theorem proj_miss {fs : List F} {s : S} {ys : List S} (hy : ∀ x, x ∈ ys ↔ sub x s) : missB fs (projS fs s ys) = false := missB_iff.2 fun _ hf => proj_sound hy hf
theorem proj_imp {fs : List F} {s : S} {ys : List S} (hy : ∀ x, x ∈ ys ↔ sub x s) {g : F} (h1 : sub g.1 s) (h2 : sub g.2 s) : impS (projS fs s ys) g = impS fs g := by
  unfold impS; rw [proj_close hy h1, decide_eq_decide]
  exact ⟨fun h => sub_trans h (and_sub_left _ _), fun h => sub_and h h2⟩
theorem proj_closed {fs : List F} {s d : S} {ys : List S} (hy : ∀ x, x ∈ ys ↔ sub x s) : closedF (projS fs s ys) d ↔ sub (closeS fs (d &&& s) &&& s) d := by
  constructor
  · intro h
    have k : closedF (projS fs s ys) (d &&& s) := fun f hf h1 =>
      sub_and (h f hf (sub_trans h1 (and_sub_left _ _))) (w2_proj (fun x hx => (hy x).1 hx) f hf).2
    rw [← proj_close hy (and_sub_right d s), closeS_closed k]; exact and_sub_left _ _
  · intro h f hf h1
    have w := w2_proj (fun x hx => (hy x).1 hx) f hf
    refine sub_trans (proj_within hy hf) (sub_trans (sub_and (sub_trans (and_sub_left _ _) (closeS_mono (sub_and h1 w.1))) (and_sub_right _ _)) h)
def projE (fs : List F) (s : S) : Int := if validF 16 fs ≠ 0 then validF 16 fs else if s >>> 16 != 0#32 then 1 else if 8 < pop s then 3 else 0
noncomputable def projR (fs : List F) (s : S) : List F := if projE fs s = 0 then projS fs s (subsS s) else []
theorem projE_zero {fs : List F} {s : S} {n : Nat} (hn : n ≤ 6) (hl : fs.length ≤ 64) (hw : W2 (fullN n) fs) (hs : sub s (fullN n)) : projE fs s = 0 := by
  have h1 : validF 16 fs = 0 := by
    have := w2_valid (n := 16) (by omega) hl (w2_mono hw (full_sub (by omega)))
    simpa using this
  have h2 : (s >>> 16 != 0#32) = false := by
    rw [bne_eq_false_iff_eq, ← sub_full]
    exact sub_trans hs (full_sub (by omega))
  have h3 := sub_pop hs
  have h4 : pop (fullN n) ≤ 8 := by
    have : n = 0 ∨ n = 1 ∨ n = 2 ∨ n = 3 ∨ n = 4 ∨ n = 5 ∨ n = 6 := by omega
    rcases this with rfl | rfl | rfl | rfl | rfl | rfl | rfl <;> decide +kernel
  unfold projE
  rw [h1, h2, if_neg (by simp), if_neg (by simp), if_neg (by omega)]
theorem projE_pop {fs : List F} {s : S} (h : projE fs s = 0) : pop s ≤ 12 := by
  unfold projE at h
  split at h
  · exact absurd h (by assumption)
  · split at h
    · simp at h
    · split at h
      · simp at h
      · omega
theorem projR_of {fs : List F} {s : S} (h : projE fs s = 0) : projR fs s = projS fs s (subsS s) := by unfold projR; rw [if_pos h]
/-- All projections together. -/
theorem closed_flat {ps : List S} {g : S → List F} {d : S} : closedF (ps.flatMap g) d ↔ ∀ p ∈ ps, closedF (g p) d := by
  unfold closedF
  constructor
  · intro h p hp f hf; exact h f (List.mem_flatMap.2 ⟨p, hp, hf⟩)
  · intro h f hf
    obtain ⟨p, hp, hf⟩ := List.mem_flatMap.1 hf
    exact h p hp f hf
theorem kept_union {fs : List F} {ps : List S} (h : ∀ p ∈ ps, projE fs p = 0) (z : S) : keptS fs ps z = closeS (ps.flatMap (projR fs)) z := by
  have e : ∀ d, closedF (ps.flatMap (projR fs)) d ↔ ClosedP2 fs ps d := fun d => by
    rw [closed_flat]
    refine forall_congr' fun p => forall_congr' fun hp => ?_
    rw [projR_of (h p hp), proj_closed (mem_subsS (projE_pop (h p hp)))]
  obtain ⟨h1, h2, h3⟩ := keptS_spec fs ps z
  exact (closeS_of ⟨h1, (e _).2 h2, fun d hd hc => h3 d hd ((e d).1 hc)⟩).symm

/-! The closure under the projections. -/
theorem kept_parts {fs : List F} {ps qs : List S} (h : ∀ p ∈ qs, p ∈ ps) (z : S) : sub (keptS fs qs z) (keptS fs ps z) := by
  obtain ⟨h1, h2, _⟩ := keptS_spec fs ps z
  exact (keptS_spec fs qs z).2.2 _ h1 fun p hp => h2 p (h p hp)
theorem kept_sub (fs : List F) (ps : List S) (z : S) : sub z (keptS fs ps z) := (keptS_spec fs ps z).1
theorem kept_close (fs : List F) (ps : List S) (z : S) : sub (keptS fs ps z) (closeS fs z) := by
  refine (keptS_spec fs ps z).2.2 _ (closeS_cl fs z).1 fun p _ => sub_trans (and_sub_left _ _) ?_
  exact (closeS_cl fs _).2.2 _ (and_sub_left _ _) (closeS_cl fs z).2.1
theorem w2_close {fs : List F} {A z : S} (hw : W2 A fs) (hz : sub z A) : sub (closeS fs z) A := (closeS_cl fs z).2.2 _ hz fun f hf _ => (hw f hf).2
theorem kept_whole {fs : List F} {ps : List S} {A z : S} (hw : W2 A fs) (hA : A ∈ ps) (hz : sub z A) : keptS fs ps z = closeS fs z := by
  refine sub_antisymm (kept_close fs ps z) ?_
  obtain ⟨h1, h2, _⟩ := keptS_spec fs ps z
  have h3 := sub_trans (kept_close fs ps z) (w2_close hw hz)
  have h4 := h2 A hA
  rw [and_self_iff.2 h3] at h4
  refine sub_trans (closeS_mono h1) ?_
  exact sub_trans (sub_and (sub_refl _) (w2_close hw h3)) h4
theorem or_more (z p c : S) : z ||| (p &&& c &&& ~~~ z) = z ||| (c &&& p) := by
  apply bv_ext
  intro i hi
  rw [BitVec.getLsbD_or, BitVec.getLsbD_or, BitVec.getLsbD_and, BitVec.getLsbD_and, BitVec.getLsbD_and, BitVec.getLsbD_not]
  cases z.getLsbD i <;> cases p.getLsbD i <;> cases c.getLsbD i <;> simp [hi]
/-- The parts that lead to the closure, one after the other. -/
def TrP (fs : List F) (ps : List S) (z0 : S) (j : Nat) (z : S) : Prop := (followS fs ps z0).1 = (followS fs ps z).1 ∧ (followS fs ps z0).2.drop j = (followS fs ps z).2
theorem trp_zero (fs : List F) (ps : List S) (z : S) : TrP fs ps z 0 z := ⟨rfl, rfl⟩
theorem trp_next {fs : List F} {ps : List S} {z0 z : S} {j i : Nat} (h : TrP fs ps z0 j z) (hi : (followS fs ps z0).2[j]? = some i) :
    ∃ p, ps[i]? = some p ∧ i < ps.length ∧ (z ||| (closeS fs (z &&& p) &&& p) == z) = false ∧ TrP fs ps z0 (j + 1) (z ||| (closeS fs (z &&& p) &&& p)) := by
  obtain ⟨h1, h2⟩ := h
  have hj := (List.getElem?_eq_some_iff.1 hi).1
  have h3 : (followS fs ps z0).2.drop j = i :: (followS fs ps z0).2.drop (j + 1) := by
    obtain ⟨_, rfl⟩ := List.getElem?_eq_some_iff.1 hi
    rw [List.drop_eq_getElem_cons hj]
  cases hf : ps.findIdx? (addsP fs z) with
  | none => rw [followS_none hf] at h2; rw [h2] at h3; cases h3
  | some k =>
    obtain ⟨hk, he, _⟩ := List.findIdx?_eq_some_iff_getElem.1 hf
    have e := followS_some hf (List.getElem?_eq_getElem hk)
    rw [e] at h1 h2
    rw [h2] at h3
    injection h3 with h3 h4
    subst h3
    have om : z ||| moreS fs ps[k] z = z ||| (closeS fs (z &&& ps[k]) &&& ps[k]) := or_more _ _ _
    refine ⟨ps[k], List.getElem?_eq_getElem hk, hk, ?_, ?_⟩
    · rw [← om]
      have := adds_grows he
      rw [beq_eq_false_iff_ne]
      intro e
      rw [e] at this
      omega
    · rw [← om]
      exact ⟨h1, h4.symm⟩
theorem trp_end {fs : List F} {ps : List S} {z0 z : S} {j : Nat} (h : TrP fs ps z0 j z) (hj : ¬ j < (followS fs ps z0).2.length) : z = keptS fs ps z0 := by
  obtain ⟨h1, h2⟩ := h
  rw [List.drop_eq_nil_of_le (by omega)] at h2
  unfold keptS
  rw [h1]
  cases hf : ps.findIdx? (addsP fs z) with
  | none => rw [followS_none hf]
  | some k =>
    obtain ⟨hk, _⟩ := List.findIdx?_eq_some_iff_getElem.1 hf
    rw [followS_some hf (List.getElem?_eq_getElem hk)] at h2; cases h2

/-! Examples, reckoned. -/
noncomputable def closeC (fs : List F) (s : S) : S := if closedF fs (iterF fs 4 s) then iterF fs 4 s else closeS fs s
theorem closeC_eq : closeC = closeS := by
  funext fs s
  unfold closeC
  split
  · rename_i h; rw [closeS_iter 4 h]
  · rfl
section
variable (cl : List F → S → S) (imp : List F → F → Bool)
def moreG (fs : List F) (p z : S) : S := p &&& cl fs (z &&& p) &&& ~~~ z
def addsG (fs : List F) (z p : S) : Bool := moreG cl fs p z != 0#32
def followG (fs : List F) (ps : List S) : Nat → S → S × List Nat
  | 0, z => (z, [])
  | n + 1, z => match ps.findIdx? (addsG cl fs z) with
    | none => (z, [])
    | some i => ((followG fs ps n (z ||| moreG cl fs (ps.getD i 0#32) z)).1, i :: (followG fs ps n (z ||| moreG cl fs (ps.getD i 0#32) z)).2)
def wXG (fs : List F) (s x : S) : List F := ((memN (cl fs x &&& s &&& ~~~ x) 32).filter (fun a => (memN x 32).all fun b => !imp fs (x &&& ~~~ bit b, bit a))).map fun a => (x, bit a)
end
theorem addsG_eq : addsG closeS = addsP := rfl
theorem followG_eq (fs : List F) (ps : List S) : ∀ (n : Nat) (z : S), followG closeS fs ps n z = followN fs ps n z := by
  intro n
  induction n with
  | zero => intro z; rfl
  | succ n ih => intro z; unfold followG followN; simp only [ih]; rfl
theorem wXG_eq : wXG closeS impS = wX := rfl
theorem followS_fuel {fs : List F} {ps : List S} : ∀ (n : Nat) (z : S), ps.findIdx? (addsP fs (followN fs ps n z).1) = none → followS fs ps z = followN fs ps n z := by
  intro n
  induction n with
  | zero => intro z h; exact followS_none h
  | succ n ih =>
    intro z h
    cases hf : ps.findIdx? (addsP fs z) with
    | none => rw [followS_none hf]; unfold followN; rw [hf]
    | some i =>
      obtain ⟨hk, _⟩ := List.findIdx?_eq_some_iff_getElem.1 hf
      have e : ps.getD i 0#32 = ps[i] := by simp [List.getD, hk]
      have u : followN fs ps (n + 1) z = ((followN fs ps n (z ||| moreS fs ps[i] z)).1, i :: (followN fs ps n (z ||| moreS fs ps[i] z)).2) := by
        conv => lhs; unfold followN
        rw [hf]; simp only [e]
      rw [u] at h ⊢
      rw [followS_some hf (List.getElem?_eq_getElem hk), ih _ h]
theorem follow_ex {fs : List F} {ps : List S} {z z' : S} {l : List Nat} (n : Nat) (h : followG closeC fs ps n z = (z', l)) (k : ps.findIdx? (addsG closeC fs z') = none) : followS fs ps z = (z', l) := by
  rw [closeC_eq, followG_eq] at h
  rw [closeC_eq, addsG_eq] at k
  rw [followS_fuel n z (by rw [h]; exact k), h]
def exCh : List F := [(1#32, 2#32), (2#32, 4#32)]
def exAd : List F := [(3#32, 4#32), (4#32, 2#32)]
def exRi : List F := [(1#32, 2#32), (2#32, 4#32), (4#32, 1#32)]
theorem exCh_valid : projE exCh 5#32 = 0 := by decide +kernel
theorem ex22_a : followS exCh [3#32, 5#32] 1#32 = (7#32, [0, 1]) := follow_ex 4 (by decide +kernel) (by decide +kernel)
theorem ex22_b : followS exCh [3#32, 5#32] 2#32 = (2#32, []) := follow_ex 4 (by decide +kernel) (by decide +kernel)
theorem ex22_c : followS exCh [3#32, 6#32] 1#32 = (7#32, [0, 1]) := follow_ex 4 (by decide +kernel) (by decide +kernel)
theorem ex22_d : followS exCh [3#32, 6#32] 2#32 = (6#32, [1]) := follow_ex 4 (by decide +kernel) (by decide +kernel)
theorem ex22_e : followS exAd [5#32, 6#32] 3#32 = (3#32, []) := follow_ex 4 (by decide +kernel) (by decide +kernel)
theorem ex22_f : followS exAd [5#32, 6#32] 4#32 = (6#32, [1]) := follow_ex 4 (by decide +kernel) (by decide +kernel)
theorem ex22_g : followS exRi [3#32, 6#32] 1#32 = (7#32, [0, 1]) := follow_ex 4 (by decide +kernel) (by decide +kernel)
theorem ex22_h : followS exRi [3#32, 6#32] 2#32 = (7#32, [0, 1]) := follow_ex 4 (by decide +kernel) (by decide +kernel)
theorem ex22_i : followS exRi [3#32, 6#32] 4#32 = (7#32, [1, 0]) := follow_ex 4 (by decide +kernel) (by decide +kernel)
theorem ex22_subs : subsS 5#32 = [0#32, 1#32, 4#32, 5#32] := by
  symm
  apply subsS_of
  refine ⟨fun h => absurd h (by decide +kernel), fun _ => ⟨by decide +kernel, fun x => ?_⟩⟩
  constructor
  · intro h
    simp only [List.mem_cons, List.not_mem_nil, or_false] at h
    rcases h with rfl | rfl | rfl | rfl <;> (rw [← and_self_iff]; decide)
  · intro h
    have h5 := sub_toNat h
    have hx : x.toNat ≤ 5 := h5
    have : x.toNat = 0 ∨ x.toNat = 1 ∨ x.toNat = 2 ∨ x.toNat = 3 ∨ x.toNat = 4 ∨ x.toNat = 5 := by omega
    have k := and_self_iff.2 h
    rcases this with e | e | e | e | e | e
    · have : x = 0#32 := BitVec.eq_of_toNat_eq e
      subst this; simp
    · have : x = 1#32 := BitVec.eq_of_toNat_eq e
      subst this; simp
    · have : x = 2#32 := BitVec.eq_of_toNat_eq e
      subst this; exact absurd k (by decide)
    · have : x = 3#32 := BitVec.eq_of_toNat_eq e
      subst this; exact absurd k (by decide)
    · have : x = 4#32 := BitVec.eq_of_toNat_eq e
      subst this; simp
    · have : x = 5#32 := BitVec.eq_of_toNat_eq e
      subst this; simp
theorem ex22_wL : wL exCh 5#32 [0#32, 1#32, 4#32, 5#32] = [(1#32, 4#32)] := by
  unfold wL
  rw [← wXG_eq, ← closeC_eq, ← impC_eq]; decide +kernel
theorem ex22_drop : dropS [(1#32, 4#32)] 0 = [(1#32, 4#32)] := by
  unfold dropS
  rw [← dropFG_eq, ← impC_eq]; decide +kernel
theorem ex22_merge : mergeF [(1#32, 4#32)] = [(1#32, 4#32)] := by
  have h : ordS (([(1#32, 4#32)] : List F).map (·.1)) = [1#32] :=
    (ordS_ord _).uniq ⟨List.pairwise_singleton _ _, fun s => Iff.rfl⟩ fun s => by simp
  unfold mergeF
  rw [h]
  decide +kernel
theorem ex22_proj : projR exCh 5#32 = [(1#32, 4#32)] := by
  rw [projR_of exCh_valid, ex22_subs]
  unfold projS
  rw [ex22_wL, ex22_drop, ex22_merge]

end Go.Proofs.YtciamnkalmihcaaDoor
