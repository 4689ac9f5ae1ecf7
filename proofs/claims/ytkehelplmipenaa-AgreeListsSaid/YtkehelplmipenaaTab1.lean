/- Tables in memory: strings, values, rows; the walks of value.Valid and of its reference. -/
import Derived.Test.YtkehelplmipenaaCells
import Derived.Test.YtkehelplmipenaaGWalk
import Derived.Test.YtkehelplmipenaaAfter
namespace Go.Proofs.Ytkehelplmipenaa
open Go.RowKit

/-! What lies in memory. -/
def encT (s : ByteArray) : Value := .string s
/-- A value: its kind, its number, its string. -/
abbrev V3 := Int × Int × ByteArray
def cV (x : V3) : List Value := [.int .i64 x.1, .int .i64 x.2.1, .string x.2.2]
theorem cV_length (x : V3) : (cV x).length = 3 := rfl
theorem cV_one (x : V3) : ∀ u ∈ cV x, u.oneCell' = true := by
  intro u hu
  simp only [cV, List.mem_cons, List.not_mem_nil, or_false] at hu
  rcases hu with rfl | rfl | rfl <;> rfl
abbrev RdV (w : World) (v : Value) (xs : List V3) : Prop := RdC cV w v xs
theorem RdV.split {w : World} {v : Value} {xs : List V3} (h : RdV w v xs) : ∃ ao cap, v = .slice ao xs.length cap ∧ xs.length ≤ 35184372088832 ∧
    ∀ (k : Nat) (x : V3), xs[k]? = some x → ∃ b off, ao = some ⟨b, off, none⟩ ∧ ∀ wr, Below w.heap.size w wr → wr.cell? ⟨b, off + k * 3, none⟩ = some (.int .i64 x.1) ∧ wr.cell? ⟨b, off + k * 3 + 1, none⟩ = some (.int .i64 x.2.1) ∧ wr.cell? ⟨b, off + k * 3 + 2, none⟩ = some (.string x.2.2) := by
  obtain ⟨ao, cap, rfl, -, h2, h3⟩ := h
  refine ⟨ao, cap, rfl, h2, fun k f hf => ?_⟩
  obtain ⟨b, off, rfl, hb, hc⟩ := h3 (by have := (List.getElem?_eq_some_iff.1 hf).1; omega)
  exact ⟨b, off, rfl, fun wr hn => ⟨(hn.cell (p := ⟨b, off + k * 3, none⟩) hb).trans (hc _ _ (flat_at cV_length xs k f 0 _ hf rfl)), (hn.cell (p := ⟨b, off + k * 3 + 1, none⟩) hb).trans (hc _ _ (flat_at cV_length xs k f 1 _ hf rfl)), (hn.cell (p := ⟨b, off + k * 3 + 2, none⟩) hb).trans (hc _ _ (flat_at cV_length xs k f 2 _ hf rfl))⟩⟩
/-- A row: its number, and its values, with the slice that holds them. -/
abbrev Row3 := Int × Value × List V3
def cR (r : Row3) : List Value := [.int .i64 r.1, r.2.1]
theorem cR_length (r : Row3) : (cR r).length = 2 := rfl
def RdR (w : World) (v : Value) (rs : List Row3) : Prop := RdC cR w v rs ∧ ∀ r ∈ rs, RdV w r.2.1 r.2.2
theorem RdR.below {w w' : World} {v : Value} {rs : List Row3} (h : RdR w v rs) (hb : Below w.heap.size w w') : RdR w' v rs := ⟨RdC.below h.1 hb, fun r hr => RdC.below (h.2 r hr) hb⟩
theorem RdR.split {w : World} {v : Value} {rs : List Row3} (h : RdR w v rs) : ∃ ao cap, v = .slice ao rs.length cap ∧ rs.length ≤ 35184372088832 ∧
    ∀ (k : Nat) (r : Row3), rs[k]? = some r → (∃ b off, ao = some ⟨b, off, none⟩ ∧ ∀ wr, Below w.heap.size w wr → wr.cell? ⟨b, off + k * 2, none⟩ = some (.int .i64 r.1) ∧ wr.cell? ⟨b, off + k * 2 + 1, none⟩ = some r.2.1) ∧ ∀ wr, Below w.heap.size w wr → RdV wr r.2.1 r.2.2 := by
  obtain ⟨⟨ao, cap, rfl, -, h2, h3⟩, h4⟩ := h
  refine ⟨ao, cap, rfl, h2, fun k r hr => ⟨?_, fun wr hn => RdC.below (h4 r (List.mem_of_getElem? hr)) hn⟩⟩
  obtain ⟨b, off, rfl, hb, hc⟩ := h3 (by have := (List.getElem?_eq_some_iff.1 hr).1; omega)
  exact ⟨b, off, rfl, fun wr hn => ⟨(hn.cell (p := ⟨b, off + k * 2, none⟩) hb).trans (hc _ _ (flat_at cR_length rs k r 0 _ hr rfl)), (hn.cell (p := ⟨b, off + k * 2 + 1, none⟩) hb).trans (hc _ _ (flat_at cR_length rs k r 1 _ hr rfl))⟩⟩

/-! Values. -/
def validV (x : V3) : Bool :=
  if x.1 = 0 then x.2.1 == 0 && x.2.2.toList.isEmpty else if x.1 = 1 then x.2.2.toList.isEmpty else if x.1 = 2 then x.2.1 == 0 && decide (x.2.2.size ≤ 200) else if x.1 = 3 then decide (1 ≤ x.2.1) && x.2.2.toList.isEmpty else false

theorem value_valid (x : V3) (w : World) :
    Calls Try.prog 99 #[.agg #[.int .i64 x.1, .int .i64 x.2.1, .string x.2.2]] w fun e w' => e = .returned (.bool (validV x)) ∧ Below w.heap.size w w' := by
  obtain ⟨k, n, s⟩ := x
  have hb := hid (below_alloc w (.cells #[.int .i64 k, .int .i64 n, .string s] 64))
  have c0 : (w.alloc (.cells #[.int .i64 k, .int .i64 n, .string s] 64)).cell? ⟨w.heap.size, 0, none⟩ = some (.int .i64 k) := by simp
  have c1 : (w.alloc (.cells #[.int .i64 k, .int .i64 n, .string s] 64)).cell? ⟨w.heap.size, 1, none⟩ = some (.int .i64 n) := by simp
  have c2 : (w.alloc (.cells #[.int .i64 k, .int .i64 n, .string s] 64)).cell? ⟨w.heap.size, 2, none⟩ = some (.string s) := by simp
  have VV := hid (show validV (k, n, s) = if k = 0 then n == 0 && s.toList.isEmpty else if k = 1 then s.toList.isEmpty else if k = 2 then n == 0 && decide (s.size ≤ 200) else if k = 3 then decide (1 ≤ n) && s.toList.isEmpty else false from rfl)
  have hsz : decide ((s.size : Int) ≤ 200) = decide (s.size ≤ 200) := by rw [decide_eq_decide]; omega
  have go : ∀ r : Bool, validV (k, n, s) = r → Calls Try.prog 99 #[.agg #[.int .i64 k, .int .i64 n, .string s]] w fun e w' => e = .returned (.bool r) ∧ Below w.heap.size w w' := by
    intro r hr
    rw [hr] at VV
    clear hr
    obtain ⟨w0, hw0⟩ : ∃ w0 : World, w.alloc (.cells #[.int .i64 k, .int .i64 n, .string s] 64) = w0 := ⟨_, rfl⟩
    rw [hw0] at hb c0 c1 c2
    have W0 := hid hw0
    clear hw0
    by_cases k0 : k = 0
    · subst k0
      rw [if_pos rfl] at VV
      cases hn : (n == 0) with
      | false =>
        rw [hn] at VV
        go_enter Try.func99, Try.ntmps99
        go_wp2_with fail
        rw [W0.out]
        go_wp2_with fail
        go_ret
        exact ⟨ret_bool VV.out.symm, hb.out⟩
      | true =>
        rw [hn] at VV
        go_enter Try.func99, Try.ntmps99
        go_wp2_with fail
        rw [W0.out]
        go_wp2_with fail
        go_ret
        exact ⟨ret_bool VV.out.symm, hb.out⟩
    · rw [if_neg k0] at VV
      have q0 : (k == 0) = false := by simpa using k0
      by_cases k1 : k = 1
      · subst k1
        rw [if_pos rfl] at VV
        go_enter Try.func99, Try.ntmps99
        go_wp2_with fail
        rw [W0.out]
        go_wp2_with fail
        go_ret
        exact ⟨ret_bool VV.out.symm, hb.out⟩
      · rw [if_neg k1] at VV
        have q1 : (k == 1) = false := by simpa using k1
        by_cases k2 : k = 2
        · subst k2
          rw [if_pos rfl] at VV
          cases hn : (n == 0) with
          | false =>
            rw [hn] at VV
            go_enter Try.func99, Try.ntmps99
            go_wp2_with fail
            rw [W0.out]
            go_wp2_with fail
            go_ret
            exact ⟨ret_bool VV.out.symm, hb.out⟩
          | true =>
            rw [hn, ← hsz] at VV
            go_enter Try.func99, Try.ntmps99
            go_wp2_with fail
            rw [W0.out]
            go_wp2_with fail
            go_ret
            exact ⟨ret_bool (by rw [VV.out]; simp <;> omega), hb.out⟩
        · rw [if_neg k2] at VV
          have q2 : (k == 2) = false := by simpa using k2
          by_cases k3 : k = 3
          · subst k3
            rw [if_pos rfl] at VV
            cases hn : decide (1 ≤ n) with
            | false =>
              rw [hn] at VV
              have hn2 : decide (n ≥ 1) = false := hn
              go_enter Try.func99, Try.ntmps99
              go_wp2_with fail
              rw [W0.out]
              go_wp2_with fail
              go_ret
              exact ⟨ret_bool VV.out.symm, hb.out⟩
            | true =>
              rw [hn] at VV
              have hn2 : decide (n ≥ 1) = true := hn
              go_enter Try.func99, Try.ntmps99
              go_wp2_with fail
              rw [W0.out]
              go_wp2_with fail
              go_ret
              exact ⟨ret_bool VV.out.symm, hb.out⟩
          · rw [if_neg k3] at VV
            have q3 : (k == 3) = false := by simpa using k3
            go_enter Try.func99, Try.ntmps99
            go_wp2_with fail
            rw [W0.out]
            go_wp2_with fail
            go_ret
            exact ⟨ret_bool VV.out.symm, hb.out⟩
  exact go _ rfl

theorem refValue_valid (x : V3) (w : World) :
    Calls Try.prog 114 #[.agg #[.int .i64 x.1, .int .i64 x.2.1, .string x.2.2]] w fun e w' => e = .returned (.bool (validV x)) ∧ Below w.heap.size w w' := by
  obtain ⟨k, n, s⟩ := x
  have hb := hid (below_alloc w (.cells #[.int .i64 k, .int .i64 n, .string s] 64))
  have c0 : (w.alloc (.cells #[.int .i64 k, .int .i64 n, .string s] 64)).cell? ⟨w.heap.size, 0, none⟩ = some (.int .i64 k) := by simp
  have c1 : (w.alloc (.cells #[.int .i64 k, .int .i64 n, .string s] 64)).cell? ⟨w.heap.size, 1, none⟩ = some (.int .i64 n) := by simp
  have c2 : (w.alloc (.cells #[.int .i64 k, .int .i64 n, .string s] 64)).cell? ⟨w.heap.size, 2, none⟩ = some (.string s) := by simp
  have VV := hid (show validV (k, n, s) = if k = 0 then n == 0 && s.toList.isEmpty else if k = 1 then s.toList.isEmpty else if k = 2 then n == 0 && decide (s.size ≤ 200) else if k = 3 then decide (1 ≤ n) && s.toList.isEmpty else false from rfl)
  have hsz : decide ((s.size : Int) ≤ 200) = decide (s.size ≤ 200) := by rw [decide_eq_decide]; omega
  have go : ∀ r : Bool, validV (k, n, s) = r → Calls Try.prog 114 #[.agg #[.int .i64 k, .int .i64 n, .string s]] w fun e w' => e = .returned (.bool r) ∧ Below w.heap.size w w' := by
    intro r hr
    rw [hr] at VV
    clear hr
    obtain ⟨w0, hw0⟩ : ∃ w0 : World, w.alloc (.cells #[.int .i64 k, .int .i64 n, .string s] 64) = w0 := ⟨_, rfl⟩
    rw [hw0] at hb c0 c1 c2
    have W0 := hid hw0
    clear hw0
    by_cases k0 : k = 0
    · subst k0
      rw [if_pos rfl] at VV
      cases hn : (n == 0) with
      | false =>
        rw [hn] at VV
        go_enter Try.func114, Try.ntmps114
        go_wp2_with fail
        rw [W0.out]
        go_wp2_with fail
        go_ret
        exact ⟨ret_bool VV.out.symm, hb.out⟩
      | true =>
        rw [hn] at VV
        go_enter Try.func114, Try.ntmps114
        go_wp2_with fail
        rw [W0.out]
        go_wp2_with fail
        go_ret
        exact ⟨ret_bool VV.out.symm, hb.out⟩
    · rw [if_neg k0] at VV
      have q0 : (k == 0) = false := by simpa using k0
      by_cases k1 : k = 1
      · subst k1
        rw [if_pos rfl] at VV
        go_enter Try.func114, Try.ntmps114
        go_wp2_with fail
        rw [W0.out]
        go_wp2_with fail
        go_ret
        exact ⟨ret_bool VV.out.symm, hb.out⟩
      · rw [if_neg k1] at VV
        have q1 : (k == 1) = false := by simpa using k1
        by_cases k2 : k = 2
        · subst k2
          rw [if_pos rfl] at VV
          cases hn : (n == 0) with
          | false =>
            rw [hn] at VV
            go_enter Try.func114, Try.ntmps114
            go_wp2_with fail
            rw [W0.out]
            go_wp2_with fail
            go_ret
            exact ⟨ret_bool VV.out.symm, hb.out⟩
          | true =>
            rw [hn, ← hsz] at VV
            go_enter Try.func114, Try.ntmps114
            go_wp2_with fail
            rw [W0.out]
            go_wp2_with fail
            go_ret
            exact ⟨ret_bool (by rw [VV.out]; simp <;> omega), hb.out⟩
        · rw [if_neg k2] at VV
          have q2 : (k == 2) = false := by simpa using k2
          by_cases k3 : k = 3
          · subst k3
            rw [if_pos rfl] at VV
            cases hn : decide (1 ≤ n) with
            | false =>
              rw [hn] at VV
              have hn2 : decide (n ≥ 1) = false := hn
              go_enter Try.func114, Try.ntmps114
              go_wp2_with fail
              rw [W0.out]
              go_wp2_with fail
              go_ret
              exact ⟨ret_bool VV.out.symm, hb.out⟩
            | true =>
              rw [hn] at VV
              have hn2 : decide (n ≥ 1) = true := hn
              go_enter Try.func114, Try.ntmps114
              go_wp2_with fail
              rw [W0.out]
              go_wp2_with fail
              go_ret
              exact ⟨ret_bool VV.out.symm, hb.out⟩
          · rw [if_neg k3] at VV
            have q3 : (k == 3) = false := by simpa using k3
            go_enter Try.func114, Try.ntmps114
            go_wp2_with fail
            rw [W0.out]
            go_wp2_with fail
            go_ret
            exact ⟨ret_bool VV.out.symm, hb.out⟩
  exact go _ rfl

end Go.Proofs.Ytkehelplmipenaa
