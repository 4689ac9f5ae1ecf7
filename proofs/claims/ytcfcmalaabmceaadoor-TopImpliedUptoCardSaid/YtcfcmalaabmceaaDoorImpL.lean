/- Plain laws for TopImplied: the sizes of a proof, and what the refuting table satisfies. No program. -/
import Derived.Test.YtcfcmalaabmceaaDoorGDer
import Derived.Test.YtcfcmalaabmceaaDoorGRefu
namespace Go.Proofs.YtcfcmalaabmceaaDoor
open Go.RowKit
set_option linter.unusedVariables false
set_option linter.unusedSimpArgs false

theorem right_len {m : Nat} {fs : List F} {st : List Stp} {i : Nat} {s : Stp} (h : rightD m fs st i s = true) : s.2.1.length ≤ 2 := by
  obtain ⟨r, l, d⟩ := s
  unfold rightD at h
  rw [Bool.and_eq_true] at h
  have h2 := h.2
  simp only at h2 ⊢
  split at h2
  · unfold givD at h2
    split at h2
    · simp
    · cases h2
  · split at h2
    · rw [Bool.and_eq_true, List.isEmpty_iff] at h2
      rw [h2.1]; simp
    · split at h2
      · unfold augD at h2
        split at h2
        · simp
        · cases h2
      · split at h2
        · unfold traD at h2
          split at h2
          · simp
          · cases h2
        · cases h2
theorem earD_lt {st : List Stp} {i k : Nat} {f : F} (h : earD st i k = some f) : k < i := by
  unfold earD at h
  split at h
  · assumption
  · cases h
theorem right_lt {m : Nat} {fs : List F} {st : List Stp} {i : Nat} {s : Stp} (h : rightD m fs st i s = true) (hr : refB s = true) {k : Nat} (hk : k ∈ s.2.1) : k < i := by
  obtain ⟨r, l, d⟩ := s
  have hr' := refB_iff.1 hr
  unfold rightD at h
  rw [Bool.and_eq_true] at h
  have h2 := h.2
  simp only at h2 hk hr'
  rcases hr' with rfl | rfl
  · rw [if_neg (by decide), if_neg (by decide), if_pos rfl] at h2
    unfold augD at h2
    split at h2
    · rename_i q
      cases he : earD st i q with
      | none => rw [he] at h2; cases h2
      | some f => rw [List.mem_singleton] at hk; subst hk; exact earD_lt he
    · cases h2
  · rw [if_neg (by decide), if_neg (by decide), if_neg (by decide), if_pos rfl] at h2
    unfold traD at h2
    split at h2
    · rename_i q p
      cases he : earD st i q with
      | none => rw [he] at h2; cases h2
      | some f =>
        cases hg : earD st i p with
        | none => rw [he, hg] at h2; cases h2
        | some g =>
          simp only [List.mem_cons, List.not_mem_nil, or_false] at hk
          rcases hk with rfl | rfl
          · exact earD_lt he
          · exact earD_lt hg
    · cases h2
theorem runD_length (fs : List F) (g : F) : ∀ (l : List Nat) (st : List Stp) (now : S) (last : Nat), (runD fs g l st now last).1.length = st.length + 3 * l.length
  | [], st, now, last => by unfold runD; simp
  | i :: l, st, now, last => by
    unfold runD
    rw [runD_length fs g l]
    simp only [List.length_append, List.length_cons, List.length_nil]
    omega
theorem proveD_length (fs : List F) (g : F) : (proveD fs g).length = 3 + 3 * (traceS fs g.1).length := by
  unfold proveD
  rw [List.length_append, runD_length]
  simp only [List.length_cons, List.length_nil]
  omega
theorem bit_one (s : S) (i : Nat) : iv (s >>> i &&& 1#32) = if s.getLsbD i = true then 1 else 0 := by
  have e : s >>> i &&& 1#32 = if s.getLsbD i = true then 1#32 else 0#32 := by
    apply BitVec.eq_of_getLsbD_eq
    intro j hj
    rw [BitVec.getLsbD_and, BitVec.getLsbD_ushiftRight, BitVec.getLsbD_one]
    cases j with
    | zero =>
      cases h : s.getLsbD i with
      | true => simp [h]
      | false => simp [h]
    | succ j =>
      have : decide (j + 1 = 0) = false := by simp
      cases h : s.getLsbD i <;> simp [BitVec.getLsbD_one]
  rw [e]
  split <;> rfl
theorem bitVs_row (m : Nat) (s : S) : bitVs m s = bitRow 1 m s := by
  unfold bitVs bitRow
  exact List.map_congr_left fun i _ => by rw [bit_one]
theorem bit_arm (m : Nat) (hm : m ≤ 32) (c : S) : bitRs m [0#32, fullN m &&& ~~~ c] = armR m [fullN m, c] := by
  unfold bitRs armR
  simp only [List.mapIdx_cons, List.mapIdx_nil]
  have e0 : bitVs m 0#32 = armV m (fullN m) 0 := by
    unfold bitVs armV
    refine List.map_congr_left fun i hi => ?_
    rw [bit_one]
    have : (0#32 : S).getLsbD i = false := by simp
    rw [if_neg (by rw [this]; simp)]
    split <;> rfl
  have e1 : bitVs m (fullN m &&& ~~~ c) = armV m c 1 := by
    unfold bitVs armV
    refine List.map_congr_left fun i hi => ?_
    rw [List.mem_range] at hi
    rw [bit_one, BitVec.getLsbD_and, BitVec.getLsbD_not, fullN_get _ _ (show i < 32 by omega), decide_eq_true hi]
    cases c.getLsbD i <;> simp [show i < 32 by omega]
  rw [e0, e1]
theorem bit_rows {m : Nat} {c : S} {rs : List Row3} (h : rs.map (fun r => (r.1, r.2.2)) = bitRs m [0#32, fullN m &&& ~~~ c]) : ∃ u v, rs = refRows 1 m c u v := by
  unfold bitRs at h
  simp only [List.mapIdx_cons, List.mapIdx_nil] at h
  match rs, h with
  | [(a, u, x), (b, v, y)], h =>
    simp only [List.map_cons, List.map_nil, List.cons.injEq, Prod.mk.injEq, and_true] at h
    obtain ⟨⟨h1, h2⟩, h3, h4⟩ := h
    refine ⟨u, v, ?_⟩
    unfold refRows
    rw [h1, h2, h3, h4, bitVs_row, bitVs_row]
    rfl
/-- The refuting table satisfies exactly what its closed set does. -/
theorem bit_sat {m : Nat} (hm : m ≤ 32) {c : S} {rs : List Row3} (h : rs.map (fun r => (r.1, r.2.2)) = bitRs m [0#32, fullN m &&& ~~~ c]) {f : F} (h1 : sub f.1 (fullN m)) (h2 : sub f.2 (fullN m)) : satB rs f = true ↔ (sub f.1 c → sub f.2 c) := by
  obtain ⟨u, v, rfl⟩ := bit_rows h
  exact ref_sat 1 hm u v h1 h2

end Go.Proofs.YtcfcmalaabmceaaDoor
