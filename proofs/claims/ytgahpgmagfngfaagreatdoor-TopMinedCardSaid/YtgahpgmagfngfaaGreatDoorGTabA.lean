/- Texts that belong together, in one file. -/
import Derived.Test.YtgahpgmagfngfaaGreatDoorCells
import Derived.Test.YtgahpgmagfngfaaGreatDoorGWalk
import Derived.Test.YtgahpgmagfngfaaGreatDoorAfter
import Derived.StillTailTactics
import Derived.Deep.RegionHeld3
import Derived.BigQuiet
/- Tables in memory: strings, values, rows; the walks of value.Valid and of its reference. -/
namespace Go.Proofs.YtgahpgmagfngfaaGreatDoor
open Go.RowKit

/-! What lies in memory. -/
def encT (s : ByteArray) : Value := .string s
/-- A value: its kind, its number, its string. -/
abbrev V3 := Int × Int × ByteArray
def cV (x : V3) : List Value := [.int .i64 x.1, .int .i64 x.2.1, .string x.2.2]
theorem cV_length (x : V3) : (cV x).length = 3 := rfl
theorem cV_one (x : V3) : ∀ u ∈ cV x, u.oneCell' = true := by
  intro u hu
  simp only [cV, List.mem_cons, List.not_mem_nil, or_false] at hu
  rcases hu with rfl | rfl | rfl <;> rfl
abbrev RdV (w : World) (v : Value) (xs : List V3) : Prop := RdC cV w v xs
theorem RdV.split {w : World} {v : Value} {xs : List V3} (h : RdV w v xs) : ∃ ao cap, v = .slice ao xs.length cap ∧ xs.length ≤ 35184372088832 ∧
    ∀ (k : Nat) (x : V3), xs[k]? = some x → ∃ b off, ao = some ⟨b, off, none⟩ ∧ ∀ wr, Below w.heap.size w wr → wr.cell? ⟨b, off + k * 3, none⟩ = some (.int .i64 x.1) ∧ wr.cell? ⟨b, off + k * 3 + 1, none⟩ = some (.int .i64 x.2.1) ∧ wr.cell? ⟨b, off + k * 3 + 2, none⟩ = some (.string x.2.2) := by
  obtain ⟨ao, cap, rfl, -, h2, h3⟩ := h
  refine ⟨ao, cap, rfl, h2, fun k f hf => ?_⟩
  obtain ⟨b, off, rfl, hb, hc⟩ := h3 (by have := (List.getElem?_eq_some_iff.1 hf).1; omega)
  exact ⟨b, off, rfl, fun wr hn => ⟨(hn.cell (p := ⟨b, off + k * 3, none⟩) hb).trans (hc _ _ (flat_at cV_length xs k f 0 _ hf rfl)), (hn.cell (p := ⟨b, off + k * 3 + 1, none⟩) hb).trans (hc _ _ (flat_at cV_length xs k f 1 _ hf rfl)), (hn.cell (p := ⟨b, off + k * 3 + 2, none⟩) hb).trans (hc _ _ (flat_at cV_length xs k f 2 _ hf rfl))⟩⟩
/-- A row: its number, and its values, with the slice that holds them. -/
abbrev Row3 := Int × Value × List V3
def cR (r : Row3) : List Value := [.int .i64 r.1, r.2.1]
theorem cR_length (r : Row3) : (cR r).length = 2 := rfl
def RdR (w : World) (v : Value) (rs : List Row3) : Prop := RdC cR w v rs ∧ ∀ r ∈ rs, RdV w r.2.1 r.2.2
theorem RdR.below {w w' : World} {v : Value} {rs : List Row3} (h : RdR w v rs) (hb : Below w.heap.size w w') : RdR w' v rs := ⟨RdC.below h.1 hb, fun r hr => RdC.below (h.2 r hr) hb⟩
theorem RdR.split {w : World} {v : Value} {rs : List Row3} (h : RdR w v rs) : ∃ ao cap, v = .slice ao rs.length cap ∧ rs.length ≤ 35184372088832 ∧
    ∀ (k : Nat) (r : Row3), rs[k]? = some r → (∃ b off, ao = some ⟨b, off, none⟩ ∧ ∀ wr, Below w.heap.size w wr → wr.cell? ⟨b, off + k * 2, none⟩ = some (.int .i64 r.1) ∧ wr.cell? ⟨b, off + k * 2 + 1, none⟩ = some r.2.1) ∧ ∀ wr, Below w.heap.size w wr → RdV wr r.2.1 r.2.2 := by
  obtain ⟨⟨ao, cap, rfl, -, h2, h3⟩, h4⟩ := h
  refine ⟨ao, cap, rfl, h2, fun k r hr => ⟨?_, fun wr hn => RdC.below (h4 r (List.mem_of_getElem? hr)) hn⟩⟩
  obtain ⟨b, off, rfl, hb, hc⟩ := h3 (by have := (List.getElem?_eq_some_iff.1 hr).1; omega)
  exact ⟨b, off, rfl, fun wr hn => ⟨(hn.cell (p := ⟨b, off + k * 2, none⟩) hb).trans (hc _ _ (flat_at cR_length rs k r 0 _ hr rfl)), (hn.cell (p := ⟨b, off + k * 2 + 1, none⟩) hb).trans (hc _ _ (flat_at cR_length rs k r 1 _ hr rfl))⟩⟩

/-! Values. -/
def validV (x : V3) : Bool :=
  if x.1 = 0 then x.2.1 == 0 && x.2.2.toList.isEmpty else if x.1 = 1 then x.2.2.toList.isEmpty else if x.1 = 2 then x.2.1 == 0 && decide (x.2.2.size ≤ 200) else if x.1 = 3 then decide (1 ≤ x.2.1) && x.2.2.toList.isEmpty else false

theorem value_valid (x : V3) (w : World) :
    Calls Tryz.prog 123 #[.agg #[.int .i64 x.1, .int .i64 x.2.1, .string x.2.2]] w fun e w' => e = .returned (.bool (validV x)) ∧ Below w.heap.size w w' := by
  obtain ⟨k, n, s⟩ := x
  have hb := hid (below_alloc w (.cells #[.int .i64 k, .int .i64 n, .string s] 89))
  have c0 : (w.alloc (.cells #[.int .i64 k, .int .i64 n, .string s] 89)).cell? ⟨w.heap.size, 0, none⟩ = some (.int .i64 k) := by simp
  have c1 : (w.alloc (.cells #[.int .i64 k, .int .i64 n, .string s] 89)).cell? ⟨w.heap.size, 1, none⟩ = some (.int .i64 n) := by simp
  have c2 : (w.alloc (.cells #[.int .i64 k, .int .i64 n, .string s] 89)).cell? ⟨w.heap.size, 2, none⟩ = some (.string s) := by simp
  have VV := hid (show validV (k, n, s) = if k = 0 then n == 0 && s.toList.isEmpty else if k = 1 then s.toList.isEmpty else if k = 2 then n == 0 && decide (s.size ≤ 200) else if k = 3 then decide (1 ≤ n) && s.toList.isEmpty else false from rfl)
  have hsz : decide ((s.size : Int) ≤ 200) = decide (s.size ≤ 200) := by rw [decide_eq_decide]; omega
  have go : ∀ r : Bool, validV (k, n, s) = r → Calls Tryz.prog 123 #[.agg #[.int .i64 k, .int .i64 n, .string s]] w fun e w' => e = .returned (.bool r) ∧ Below w.heap.size w w' := by
    intro r hr
    rw [hr] at VV
    clear hr
    obtain ⟨w0, hw0⟩ : ∃ w0 : World, w.alloc (.cells #[.int .i64 k, .int .i64 n, .string s] 89) = w0 := ⟨_, rfl⟩
    rw [hw0] at hb c0 c1 c2
    have W0 := hid hw0
    clear hw0
    by_cases k0 : k = 0
    · subst k0
      rw [if_pos rfl] at VV
      cases hn : (n == 0) with
      | false =>
        rw [hn] at VV
        go_enter Tryz.func123, Tryz.ntmps123
        go_wp2_with fail
        rw [W0.out]
        go_wp2_with fail
        go_ret
        exact ⟨ret_bool VV.out.symm, hb.out⟩
      | true =>
        rw [hn] at VV
        go_enter Tryz.func123, Tryz.ntmps123
        go_wp2_with fail
        rw [W0.out]
        go_wp2_with fail
        go_ret
        exact ⟨ret_bool VV.out.symm, hb.out⟩
    · rw [if_neg k0] at VV
      have q0 : (k == 0) = false := by simpa using k0
      by_cases k1 : k = 1
      · subst k1
        rw [if_pos rfl] at VV
        go_enter Tryz.func123, Tryz.ntmps123
        go_wp2_with fail
        rw [W0.out]
        go_wp2_with fail
        go_ret
        exact ⟨ret_bool VV.out.symm, hb.out⟩
      · rw [if_neg k1] at VV
        have q1 : (k == 1) = false := by simpa using k1
        by_cases k2 : k = 2
        · subst k2
          rw [if_pos rfl] at VV
          cases hn : (n == 0) with
          | false =>
            rw [hn] at VV
            go_enter Tryz.func123, Tryz.ntmps123
            go_wp2_with fail
            rw [W0.out]
            go_wp2_with fail
            go_ret
            exact ⟨ret_bool VV.out.symm, hb.out⟩
          | true =>
            rw [hn, ← hsz] at VV
            go_enter Tryz.func123, Tryz.ntmps123
            go_wp2_with fail
            rw [W0.out]
            go_wp2_with fail
            go_ret
            exact ⟨ret_bool (by rw [VV.out]; simp <;> omega), hb.out⟩
        · rw [if_neg k2] at VV
          have q2 : (k == 2) = false := by simpa using k2
          by_cases k3 : k = 3
          · subst k3
            rw [if_pos rfl] at VV
            cases hn : decide (1 ≤ n) with
            | false =>
              rw [hn] at VV
              have hn2 : decide (n ≥ 1) = false := hn
              go_enter Tryz.func123, Tryz.ntmps123
              go_wp2_with fail
              rw [W0.out]
              go_wp2_with fail
              go_ret
              exact ⟨ret_bool VV.out.symm, hb.out⟩
            | true =>
              rw [hn] at VV
              have hn2 : decide (n ≥ 1) = true := hn
              go_enter Tryz.func123, Tryz.ntmps123
              go_wp2_with fail
              rw [W0.out]
              go_wp2_with fail
              go_ret
              exact ⟨ret_bool VV.out.symm, hb.out⟩
          · rw [if_neg k3] at VV
            have q3 : (k == 3) = false := by simpa using k3
            go_enter Tryz.func123, Tryz.ntmps123
            go_wp2_with fail
            rw [W0.out]
            go_wp2_with fail
            go_ret
            exact ⟨ret_bool VV.out.symm, hb.out⟩
  exact go _ rfl


end Go.Proofs.YtgahpgmagfngfaaGreatDoor


/- Names: the walks of isName and of its reference. -/
namespace Go.Proofs.YtgahpgmagfngfaaGreatDoor
open Go.RowKit
set_option linter.unusedVariables false

def byteN (s : ByteArray) (k : Nat) : Nat := if h : k < s.size then (s[k]'h).toNat else 0
theorem byteN_at {s : ByteArray} {k : Nat} (h : k < s.size) : (s[k]'h).toNat = byteN s k := by unfold byteN; rw [dif_pos h]
theorem byteN_lt (s : ByteArray) (k : Nat) : byteN s k < 256 := by
  unfold byteN
  split
  · exact UInt8.toNat_lt _
  · omega
def letterB (c : Nat) : Bool := (decide (97 ≤ c) && decide (c ≤ 122)) || (decide (65 ≤ c) && decide (c ≤ 90)) || c == 95
def digitB (c : Nat) : Bool := decide (48 ≤ c) && decide (c ≤ 57)
def charB (k c : Nat) : Bool := letterB c || (k != 0 && digitB c)
/-- What the comparisons of a byte say, range by range. -/
theorem byte_cases (c : Nat) : (97 ≤ c ∧ c ≤ 122) ∨ (122 < c) ∨ (65 ≤ c ∧ c ≤ 90) ∨ (c = 95) ∨ (90 < c ∧ c < 97 ∧ c ≠ 95) ∨ (48 ≤ c ∧ c ≤ 57) ∨ (57 < c ∧ c < 65) ∨ c < 48 := by omega


/-! Names. -/
def nullL : List UInt8 := [110, 117, 108, 108]
def badC (s : ByteArray) (k : Nat) : Bool := !charB k (byteN s k)
def nameB (s : ByteArray) : Bool := !s.toList.isEmpty && decide (s.size ≤ 24) && !(s.toList == nullL) && !(List.range s.size).any (badC s)
theorem empty_size (s : ByteArray) : s.toList.isEmpty = (s.size == 0) := by
  rw [ByteArray.toList_eq]
  have : s.size = s.data.toList.length := by rw [Array.length_toList]; rfl
  rw [this]
  cases s.data.toList <;> rfl
theorem range_at {n k : Nat} (h : k < n) : (List.range n)[k]? = some k := by rw [List.getElem?_range h]

set_option maxHeartbeats 3200000 in
theorem isName_any (s : ByteArray) (w : World) :
    Calls Tryz.prog 103 #[.string s] w fun e w' => e = .returned (.bool (nameB s)) ∧ w = w' := by
  have NB := hid (show nameB s = (!s.toList.isEmpty && decide (s.size ≤ 24) && !(s.toList == nullL) && !(List.range s.size).any (badC s)) from rfl)
  have go : ∀ r : Bool, nameB s = r → Calls Tryz.prog 103 #[.string s] w fun e w' => e = .returned (.bool r) ∧ w = w' := by
    intro r hr
    rw [hr] at NB
    clear hr
    cases he : s.toList.isEmpty with
    | true =>
      rw [he] at NB
      go_enter Tryz.func103, Tryz.ntmps103
      go_wp2_with fail
      go_ret
      exact ⟨ret_bool NB.out.symm, rfl⟩
    | false =>
      rw [he] at NB
      by_cases h24 : s.size ≤ 24
      · have d24 : decide ((s.size : Int) > 24) = false := by simp; omega
        rw [decide_eq_true h24] at NB
        cases hn : (s.toList == nullL) with
        | true =>
          rw [hn] at NB
          have hn2 : s.toList = [110, 117, 108, 108] := by simpa [nullL] using hn
          go_enter Tryz.func103, Tryz.ntmps103
          go_wp2_with fail
          go_ret
          exact ⟨ret_bool NB.out.symm, rfl⟩
        | false =>
          rw [hn] at NB
          have hn2 : (s.toList == [110, 117, 108, 108]) = false := hn
          have NB2 := hid (show r = !(List.range s.size).any (badC s) from NB.out)
          have BC := hid (fun k => show badC s k = !charB k (byteN s k) from rfl)
          have BL := hid (byteN_lt s)
          clear hn NB
          go_enter Tryz.func103, Tryz.ntmps103
          go_wp2_with fail
          go_loop [19] (fun i => ∃ k : Nat, k ≤ s.size ∧ i = .int .i64 k ∧ Hid (((List.range s.size).take k).any (badC s) = false)) (fun i => s.size - (intOf i).toNat)
          case atStart => exact ⟨0, Nat.zero_le _, rfl, hid rfl⟩
          case round =>
            obtain ⟨k, hk, rfl, H⟩ := hrel
            by_cases hlt : k < s.size
            · have hb := fun h : k < s.size => byteN_at h
              have BC1 := hid (BC.out k)
              have RA := hid (range_at hlt)
              have hcl := BL.out k
              have k0 : (0 : Int) ≤ (k : Int) := by omega
              have k1 : (k : Int) < (s.size : Int) := by omega
              generalize byteN s k = c at *
              have CB := hid (show charB k c = (letterB c || (k != 0 && digitB c)) from rfl)
              have LB := hid (show letterB c = ((decide (97 ≤ c) && decide (c ≤ 122)) || (decide (65 ≤ c) && decide (c ≤ 90)) || c == 95) from rfl)
              have DB := hid (show digitB c = (decide (48 ≤ c) && decide (c ≤ 57)) from rfl)
              have BAD := hid (fun h : badC s k = true => show false = r by rw [NB2.out, any_hit RA.out h]; rfl)
              have GOOD := hid (fun h : badC s k = false => none_next RA.out h H.out)
              rcases byte_cases c with ⟨h1, h2⟩ | h1 | ⟨h1, h2⟩ | h1 | ⟨h1, h2, h3⟩ | ⟨h1, h2⟩ | ⟨h1, h2⟩ | h1
              · have i1 : (97 : Int) ≤ (c : Int) := by omega
                have i2 : (c : Int) ≤ 122 := by omega
                have i3 : (65 : Int) ≤ (c : Int) := by omega
                have i4 : ¬ ((c : Int) ≤ 90) := by omega
                have i6 : ¬ ((c : Int) < 48) := by omega
                have i7 : (57 : Int) < (c : Int) := by omega
                have j1 : 97 ≤ c := by omega
                have j2 : c ≤ 122 := by omega
                have j3 : 65 ≤ c := by omega
                have j4 : ¬ (c ≤ 90) := by omega
                have j6 : ¬ (c < 48) := by omega
                have j7 : 57 < c := by omega
                have i5 : ((c : Int) == 95) = false := by rw [beq_eq_false_iff_ne]; omega
                have j5 : (c == 95) = false := by rw [beq_eq_false_iff_ne]; omega
                have e : letterB c = true := by rw [LB.out]; simp [j1, j2, j3, j4, j5]
                have G := hid (GOOD.out (by rw [BC1.out, CB.out, e]; rfl))
                clear BAD GOOD e
                go_wp2_with fail
                go_round
                case rel => exact ⟨k + 1, by omega, by go_num, hid G.out⟩
                case measure => simp [intOf]; omega
              · have i1 : (97 : Int) ≤ (c : Int) := by omega
                have i2 : ¬ ((c : Int) ≤ 122) := by omega
                have i3 : (65 : Int) ≤ (c : Int) := by omega
                have i4 : ¬ ((c : Int) ≤ 90) := by omega
                have i6 : ¬ ((c : Int) < 48) := by omega
                have i7 : (57 : Int) < (c : Int) := by omega
                have j1 : 97 ≤ c := by omega
                have j2 : ¬ (c ≤ 122) := by omega
                have j3 : 65 ≤ c := by omega
                have j4 : ¬ (c ≤ 90) := by omega
                have j6 : ¬ (c < 48) := by omega
                have j7 : 57 < c := by omega
                have i5 : ((c : Int) == 95) = false := by rw [beq_eq_false_iff_ne]; omega
                have j5 : (c == 95) = false := by rw [beq_eq_false_iff_ne]; omega
                have e : letterB c = false := by rw [LB.out]; simp [j1, j2, j3, j4, j5]
                have ed : digitB c = false := by rw [DB.out]; simp <;> omega
                by_cases hk0 : k = 0
                · have z0 : ((k : Int) == 0) = true := by rw [beq_iff_eq]; omega
                  have RF := hid (BAD.out (by rw [BC1.out, CB.out, e, hk0]; rfl))
                  clear BAD GOOD e ed hk0
                  go_wp2_with fail
                  go_ret
                  exact ⟨ret_bool RF.out, rfl⟩
                · have z0 : ((k : Int) == 0) = false := by rw [beq_eq_false_iff_ne]; omega
                  have z1 : (k != 0) = true := by simpa using hk0
                  have RF := hid (BAD.out (by rw [BC1.out, CB.out, e, ed]; simp))
                  clear BAD GOOD e ed z1
                  go_wp2_with fail
                  go_ret
                  exact ⟨ret_bool RF.out, rfl⟩
              · have i1 : ¬ ((97 : Int) ≤ (c : Int)) := by omega
                have i2 : (c : Int) ≤ 122 := by omega
                have i3 : (65 : Int) ≤ (c : Int) := by omega
                have i4 : (c : Int) ≤ 90 := by omega
                have i6 : ¬ ((c : Int) < 48) := by omega
                have i7 : (57 : Int) < (c : Int) := by omega
                have j1 : ¬ (97 ≤ c) := by omega
                have j2 : c ≤ 122 := by omega
                have j3 : 65 ≤ c := by omega
                have j4 : c ≤ 90 := by omega
                have j6 : ¬ (c < 48) := by omega
                have j7 : 57 < c := by omega
                have i5 : ((c : Int) == 95) = false := by rw [beq_eq_false_iff_ne]; omega
                have j5 : (c == 95) = false := by rw [beq_eq_false_iff_ne]; omega
                have e : letterB c = true := by rw [LB.out]; simp [j1, j2, j3, j4, j5]
                have G := hid (GOOD.out (by rw [BC1.out, CB.out, e]; rfl))
                clear BAD GOOD e
                go_wp2_with fail
                go_round
                case rel => exact ⟨k + 1, by omega, by go_num, hid G.out⟩
                case measure => simp [intOf]; omega
              · have i1 : ¬ ((97 : Int) ≤ (c : Int)) := by omega
                have i2 : (c : Int) ≤ 122 := by omega
                have i3 : (65 : Int) ≤ (c : Int) := by omega
                have i4 : ¬ ((c : Int) ≤ 90) := by omega
                have i6 : ¬ ((c : Int) < 48) := by omega
                have i7 : (57 : Int) < (c : Int) := by omega
                have j1 : ¬ (97 ≤ c) := by omega
                have j2 : c ≤ 122 := by omega
                have j3 : 65 ≤ c := by omega
                have j4 : ¬ (c ≤ 90) := by omega
                have j6 : ¬ (c < 48) := by omega
                have j7 : 57 < c := by omega
                have i5 : ((c : Int) == 95) = true := by rw [beq_iff_eq]; omega
                have j5 : (c == 95) = true := by rw [beq_iff_eq]; omega
                have e : letterB c = true := by rw [LB.out]; simp [j1, j2, j3, j4, j5]
                have G := hid (GOOD.out (by rw [BC1.out, CB.out, e]; rfl))
                clear BAD GOOD e
                go_wp2_with fail
                go_round
                case rel => exact ⟨k + 1, by omega, by go_num, hid G.out⟩
                case measure => simp [intOf]; omega
              · have i1 : ¬ ((97 : Int) ≤ (c : Int)) := by omega
                have i2 : (c : Int) ≤ 122 := by omega
                have i3 : (65 : Int) ≤ (c : Int) := by omega
                have i4 : ¬ ((c : Int) ≤ 90) := by omega
                have i6 : ¬ ((c : Int) < 48) := by omega
                have i7 : (57 : Int) < (c : Int) := by omega
                have j1 : ¬ (97 ≤ c) := by omega
                have j2 : c ≤ 122 := by omega
                have j3 : 65 ≤ c := by omega
                have j4 : ¬ (c ≤ 90) := by omega
                have j6 : ¬ (c < 48) := by omega
                have j7 : 57 < c := by omega
                have i5 : ((c : Int) == 95) = false := by rw [beq_eq_false_iff_ne]; omega
                have j5 : (c == 95) = false := by rw [beq_eq_false_iff_ne]; omega
                have e : letterB c = false := by rw [LB.out]; simp [j1, j2, j3, j4, j5]
                have ed : digitB c = false := by rw [DB.out]; simp <;> omega
                by_cases hk0 : k = 0
                · have z0 : ((k : Int) == 0) = true := by rw [beq_iff_eq]; omega
                  have RF := hid (BAD.out (by rw [BC1.out, CB.out, e, hk0]; rfl))
                  clear BAD GOOD e ed hk0
                  go_wp2_with fail
                  go_ret
                  exact ⟨ret_bool RF.out, rfl⟩
                · have z0 : ((k : Int) == 0) = false := by rw [beq_eq_false_iff_ne]; omega
                  have z1 : (k != 0) = true := by simpa using hk0
                  have RF := hid (BAD.out (by rw [BC1.out, CB.out, e, ed]; simp))
                  clear BAD GOOD e ed z1
                  go_wp2_with fail
                  go_ret
                  exact ⟨ret_bool RF.out, rfl⟩
              · have i1 : ¬ ((97 : Int) ≤ (c : Int)) := by omega
                have i2 : (c : Int) ≤ 122 := by omega
                have i3 : ¬ ((65 : Int) ≤ (c : Int)) := by omega
                have i4 : (c : Int) ≤ 90 := by omega
                have i6 : ¬ ((c : Int) < 48) := by omega
                have i7 : ¬ ((57 : Int) < (c : Int)) := by omega
                have j1 : ¬ (97 ≤ c) := by omega
                have j2 : c ≤ 122 := by omega
                have j3 : ¬ (65 ≤ c) := by omega
                have j4 : c ≤ 90 := by omega
                have j6 : ¬ (c < 48) := by omega
                have j7 : ¬ (57 < c) := by omega
                have i5 : ((c : Int) == 95) = false := by rw [beq_eq_false_iff_ne]; omega
                have j5 : (c == 95) = false := by rw [beq_eq_false_iff_ne]; omega
                have e : letterB c = false := by rw [LB.out]; simp [j1, j2, j3, j4, j5]
                have ed : digitB c = true := by rw [DB.out]; simp <;> omega
                by_cases hk0 : k = 0
                · have z0 : ((k : Int) == 0) = true := by rw [beq_iff_eq]; omega
                  have RF := hid (BAD.out (by rw [BC1.out, CB.out, e, hk0]; rfl))
                  clear BAD GOOD e ed hk0
                  go_wp2_with fail
                  go_ret
                  exact ⟨ret_bool RF.out, rfl⟩
                · have z0 : ((k : Int) == 0) = false := by rw [beq_eq_false_iff_ne]; omega
                  have z1 : (k != 0) = true := by simpa using hk0
                  have G := hid (GOOD.out (by rw [BC1.out, CB.out, e, ed, z1]; rfl))
                  clear BAD GOOD e ed z1
                  go_wp2_with fail
                  go_round
                  case rel => exact ⟨k + 1, by omega, by go_num, hid G.out⟩
                  case measure => simp [intOf]; omega
              · have i1 : ¬ ((97 : Int) ≤ (c : Int)) := by omega
                have i2 : (c : Int) ≤ 122 := by omega
                have i3 : ¬ ((65 : Int) ≤ (c : Int)) := by omega
                have i4 : (c : Int) ≤ 90 := by omega
                have i6 : ¬ ((c : Int) < 48) := by omega
                have i7 : (57 : Int) < (c : Int) := by omega
                have j1 : ¬ (97 ≤ c) := by omega
                have j2 : c ≤ 122 := by omega
                have j3 : ¬ (65 ≤ c) := by omega
                have j4 : c ≤ 90 := by omega
                have j6 : ¬ (c < 48) := by omega
                have j7 : 57 < c := by omega
                have i5 : ((c : Int) == 95) = false := by rw [beq_eq_false_iff_ne]; omega
                have j5 : (c == 95) = false := by rw [beq_eq_false_iff_ne]; omega
                have e : letterB c = false := by rw [LB.out]; simp [j1, j2, j3, j4, j5]
                have ed : digitB c = false := by rw [DB.out]; simp <;> omega
                by_cases hk0 : k = 0
                · have z0 : ((k : Int) == 0) = true := by rw [beq_iff_eq]; omega
                  have RF := hid (BAD.out (by rw [BC1.out, CB.out, e, hk0]; rfl))
                  clear BAD GOOD e ed hk0
                  go_wp2_with fail
                  go_ret
                  exact ⟨ret_bool RF.out, rfl⟩
                · have z0 : ((k : Int) == 0) = false := by rw [beq_eq_false_iff_ne]; omega
                  have z1 : (k != 0) = true := by simpa using hk0
                  have RF := hid (BAD.out (by rw [BC1.out, CB.out, e, ed]; simp))
                  clear BAD GOOD e ed z1
                  go_wp2_with fail
                  go_ret
                  exact ⟨ret_bool RF.out, rfl⟩
              · have i1 : ¬ ((97 : Int) ≤ (c : Int)) := by omega
                have i2 : (c : Int) ≤ 122 := by omega
                have i3 : ¬ ((65 : Int) ≤ (c : Int)) := by omega
                have i4 : (c : Int) ≤ 90 := by omega
                have i6 : (c : Int) < 48 := by omega
                have i7 : ¬ ((57 : Int) < (c : Int)) := by omega
                have j1 : ¬ (97 ≤ c) := by omega
                have j2 : c ≤ 122 := by omega
                have j3 : ¬ (65 ≤ c) := by omega
                have j4 : c ≤ 90 := by omega
                have j6 : c < 48 := by omega
                have j7 : ¬ (57 < c) := by omega
                have i5 : ((c : Int) == 95) = false := by rw [beq_eq_false_iff_ne]; omega
                have j5 : (c == 95) = false := by rw [beq_eq_false_iff_ne]; omega
                have e : letterB c = false := by rw [LB.out]; simp [j1, j2, j3, j4, j5]
                have ed : digitB c = false := by rw [DB.out]; simp <;> omega
                by_cases hk0 : k = 0
                · have z0 : ((k : Int) == 0) = true := by rw [beq_iff_eq]; omega
                  have RF := hid (BAD.out (by rw [BC1.out, CB.out, e, hk0]; rfl))
                  clear BAD GOOD e ed hk0
                  go_wp2_with fail
                  go_ret
                  exact ⟨ret_bool RF.out, rfl⟩
                · have z0 : ((k : Int) == 0) = false := by rw [beq_eq_false_iff_ne]; omega
                  have z1 : (k != 0) = true := by simpa using hk0
                  have RF := hid (BAD.out (by rw [BC1.out, CB.out, e, ed]; simp))
                  clear BAD GOOD e ed z1
                  go_wp2_with fail
                  go_ret
                  exact ⟨ret_bool RF.out, rfl⟩
            · have HA := hid (any_end H.out (by simpa using hlt))
              have RT := hid (show true = r by rw [NB2.out, HA.out]; rfl)
              go_wp2_with fail
              go_ret
              exact ⟨ret_bool RT.out, rfl⟩
      · have d24 : decide ((s.size : Int) > 24) = true := by simp; omega
        rw [decide_eq_false h24] at NB
        go_enter Tryz.func103, Tryz.ntmps103
        go_wp2_with fail
        go_ret
        exact ⟨ret_bool NB.out.symm, rfl⟩
  exact go _ rfl

end Go.Proofs.YtgahpgmagfngfaaGreatDoor


/- The walks of drossref03's Name, of slices.Contains over strings, of validValues and Valids. -/
namespace Go.Proofs.YtgahpgmagfngfaaGreatDoor
open Go.RowKit



/-! Strings in a list. -/
def eqT (s x : ByteArray) : Bool := s.toList == x.toList
theorem indexT_any (xs : List ByteArray) (s : ByteArray) (v : Value) (w : World) (hv : RdE encT w v xs) :
    Calls Tryz.prog 143 #[v, .string s] w fun e w' => (∃ n : Int, e = .returned (.int .i64 n) ∧ decide (0 ≤ n) = xs.any (eqT s)) ∧ w = w' := by
  obtain ⟨ao, cap, rfl, hl, hc⟩ := hv.split
  have FC := hid hc
  have ET := hid (fun x => show eqT s x = (s.toList == x.toList) from rfl)
  clear hv hc
  go_enter Tryz.func143, Tryz.ntmps143
  go_wp2_with fail
  go_loop [8] (fun i => ∃ k : Nat, k ≤ xs.length ∧ i = .int .i64 k ∧ Hid ((xs.take k).any (eqT s) = false)) (fun i => xs.length - (intOf i).toNat)
  case atStart => exact ⟨0, Nat.zero_le _, rfl, hid rfl⟩
  case round =>
    obtain ⟨k, hk, rfl, H⟩ := hrel
    by_cases hlt : k < xs.length
    · obtain ⟨x, hx⟩ := get_some hlt
      obtain ⟨b, off, rfl, hd⟩ := FC.out k x hx
      have e0 : w.cell? ⟨b, off + k, none⟩ = some (.string x) := hd w (Below.refl _ _)
      have k0 : (0 : Int) ≤ (k : Int) := by omega
      have E1 := hid (ET.out x)
      have X := hid hx
      clear hd hx
      cases hq : (s.toList == x.toList) with
      | true =>
        have P := hid (E1.out.trans hq)
        go_wp2_with fail
        go_ret
        exact ⟨⟨_, rfl, by rw [any_hit X.out P.out]; simp⟩, rfl⟩
      | false =>
        have P := hid (E1.out.trans hq)
        go_wp2_with fail
        go_round
        case rel => exact ⟨k + 1, by omega, by go_num, hid (none_next X.out P.out H.out)⟩
        case measure => simp [intOf]; omega
    · have HA := hid (any_end H.out hlt)
      go_wp2_with fail
      go_ret
      exact ⟨⟨_, rfl, by rw [HA.out]; rfl⟩, rfl⟩
theorem containsT_any (xs : List ByteArray) (s : ByteArray) (v : Value) (w : World) (hv : RdE encT w v xs) :
    Calls Tryz.prog 104 #[v, .string s] w fun e w' => e = .returned (.bool (xs.any (eqT s))) ∧ w = w' := by
  have C := hid (indexT_any xs s v w hv)
  obtain ⟨ao, cap, rfl, -⟩ := hv.split
  clear hv
  go_enter Tryz.func104, Tryz.ntmps104
  go_wp2_with fail
  refine C.out.mono ?_
  rintro e w' ⟨⟨n, rfl, hn⟩, rfl⟩
  have HN := hid hn
  clear hn
  go_wp2_with fail
  go_ret
  exact ⟨ret_bool (by rw [← HN.out]), rfl⟩

/-! Values in a list. -/
def badV (x : V3) : Bool := !validV x
theorem validValues1_any (x : V3) (w : World) :
    Calls Tryz.prog 145 #[.agg #[.int .i64 x.1, .int .i64 x.2.1, .string x.2.2]] w fun e w' => e = .returned (.bool (badV x)) ∧ Below w.heap.size w w' := by
  have hb := hid (below_alloc w (.cells #[.int .i64 x.1, .int .i64 x.2.1, .string x.2.2] 89))
  have C := hid (value_valid x (w.alloc (.cells #[.int .i64 x.1, .int .i64 x.2.1, .string x.2.2] 89)))
  have E := hid (show badV x = !validV x from rfl)
  rw [E.out]
  generalize validV x = r at *
  go_enter Tryz.func145, Tryz.ntmps145
  go_wp2_with fail
  refine C.out.mono ?_
  rintro e w1 ⟨rfl, hb1⟩
  have B1 := hid (hb.out.trans (hb1.mono hb.out.size))
  clear hb1
  go_wp2_with fail
  go_ret
  exact ⟨rfl, B1.out⟩
theorem indexFuncV (xs : List V3) (v : Value) (w : World) (hv : RdV w v xs) :
    Calls Tryz.prog 174 #[v, .func (.func 145) #[] #[]] w fun e w' => (∃ n : Int, e = .returned (.int .i64 n) ∧ decide (0 ≤ n) = xs.any badV) ∧ Below w.heap.size w w' := by
  have G := hid (fun (x : V3) (W : World) => validValues1_any x W)
  have eg := enters _ _ _ Tryz.func145 (by kernel_rfl) rfl
  obtain ⟨ao, cap, rfl, hl, hc⟩ := RdV.split hv
  have FC := hid hc
  clear hv hc
  go_enter Tryz.func174, Tryz.ntmps174
  go_wp2_with fail
  go_loopw [8] (fun i wr => ∃ k : Nat, k ≤ xs.length ∧ i = .int .i64 k ∧ Below w.heap.size w wr ∧ Hid ((xs.take k).any badV = false)) (fun i _ => xs.length - (intOf i).toNat)
  case atStart => exact ⟨0, Nat.zero_le _, rfl, Below.refl _ _, hid rfl⟩
  case round =>
    obtain ⟨k, hk, rfl, hnx, H⟩ := hrel
    by_cases hlt : k < xs.length
    · obtain ⟨x, hx⟩ := get_some hlt
      obtain ⟨b, off, rfl, hd⟩ := FC.out k x hx
      obtain ⟨e0, e1, e2⟩ := hd wr hnx
      have C := hid (G.out x wr)
      have X := hid hx
      have HN := hid hnx
      clear hd hx hnx
      cases hp : badV x with
      | true =>
        rw [hp] at C
        have P1 := hid hp
        clear hp
        go_wp2_with fail
        refine C.out.mono ?_
        rintro e w1 ⟨rfl, hb1⟩
        have B1 := hid (HN.out.trans (hb1.mono HN.out.size))
        clear hb1
        go_wp2_with fail
        go_ret
        exact ⟨⟨_, rfl, by rw [any_hit X.out P1.out]; simp⟩, B1.out⟩
      | false =>
        rw [hp] at C
        have P1 := hid hp
        clear hp
        go_wp2_with fail
        refine C.out.mono ?_
        rintro e w1 ⟨rfl, hb1⟩
        have B1 := hid (HN.out.trans (hb1.mono HN.out.size))
        clear hb1
        go_wp2_with fail
        go_roundw
        case rel => exact ⟨k + 1, by omega, by go_num, B1.out, hid (none_next X.out P1.out H.out)⟩
        case measure => simp [intOf]; omega
    · have HA := hid (any_end H.out hlt)
      have HN := hid hnx
      clear hnx
      go_wp2_with fail
      go_ret
      exact ⟨⟨_, rfl, by rw [HA.out]; rfl⟩, HN.out⟩
theorem validValues_any (xs : List V3) (v : Value) (w : World) (hv : RdV w v xs) :
    Calls Tryz.prog 105 #[v] w fun e w' => e = .returned (.bool (!xs.any badV)) ∧ Below w.heap.size w w' := by
  have C := hid (indexFuncV xs v w hv)
  have D := hid (show Calls Tryz.prog 144 #[v, .func (.func 145) #[] #[]] w fun e w' => e = .returned (.bool (xs.any badV)) ∧ Below w.heap.size w w' by
    obtain ⟨ao, cap, rfl, -⟩ := RdV.split hv
    clear hv
    go_enter Tryz.func144, Tryz.ntmps144
    go_wp2_with fail
    refine C.out.mono ?_
    rintro e w1 ⟨⟨n, rfl, hn⟩, hb1⟩
    have HN := hid hn
    have B1 := hid hb1
    clear hn hb1
    go_wp2_with fail
    go_ret
    exact ⟨ret_bool (by rw [← HN.out]), B1.out⟩)
  obtain ⟨ao, cap, rfl, -⟩ := RdV.split hv
  clear hv C
  generalize xs.any badV = r at *
  go_enter Tryz.func105, Tryz.ntmps105
  go_wp2_with fail
  refine D.out.mono ?_
  rintro e w1 ⟨rfl, hb1⟩
  have B1 := hid hb1
  clear hb1
  go_wp2_with fail
  go_ret
  exact ⟨rfl, B1.out⟩

end Go.Proofs.YtgahpgmagfngfaaGreatDoor


/- The walks of table.Valid, of drossref03's Names and Valid, and of the checks of chapter 27. -/
namespace Go.Proofs.YtgahpgmagfngfaaGreatDoor
open Go.RowKit

theorem RdE.takeT {α : Type} {f : α → Value} {w : World} {ao : Option Addr} {n cap k : Nat} {xs : List α} (h : RdE f w (.slice ao n cap) xs) (hk : k ≤ xs.length) : RdE f w (.slice ao k cap) (xs.take k) := by
  obtain ⟨ao', cap', he, h1, h2, h3⟩ := h
  cases he
  refine ⟨_, _, by rw [List.length_take, Nat.min_eq_left hk], by rw [List.length_take]; omega, by rw [List.length_take]; omega, fun hp => ?_⟩
  rw [List.length_take] at hp
  obtain ⟨b, off, e, hb, hc⟩ := h3 (by omega)
  refine ⟨b, off, e, hb, fun i x hi => hc i x ?_⟩
  have hik : i < k := by
    have := (List.getElem?_eq_some_iff.1 hi).1
    rw [List.length_take] at this; omega
  rwa [List.getElem?_take_of_lt hik] at hi

/-- A table: its name, its attributes, its rows. -/
abbrev T3 := ByteArray × List ByteArray × List Row3
def RdT (w : World) (av rv : Value) (t : T3) : Prop := RdE encT w av t.2.1 ∧ RdR w rv t.2.2
theorem RdT.below {w w' : World} {av rv : Value} {t : T3} (h : RdT w av rv t) (hb : Below w.heap.size w w') : RdT w' av rv t := ⟨h.1.below hb, h.2.below hb⟩

def attrBad (ats : List ByteArray) (i : Nat) : Bool := !nameB (ats.getD i (ByteArray.mk #[])) || (ats.take i).any (eqT (ats.getD i (ByteArray.mk #[])))
theorem attrBad_at {ats : List ByteArray} {i : Nat} {a : ByteArray} (h : ats[i]? = some a) : attrBad ats i = (!nameB a || (ats.take i).any (eqT a)) := by unfold attrBad; simp [List.getD, h]
def attrsBad (ats : List ByteArray) : Bool := (List.range ats.length).any (attrBad ats)
def rowsE (last : Int) (m : Nat) : List Row3 → Int
  | [] => 0
  | r :: rs => if r.1 ≤ last then 1 else if r.2.2.length ≠ m then 6 else if r.2.2.any badV then 1 else rowsE r.1 m rs
def tabE (t : T3) : Int := if nameB t.1 = false then 1 else if 16 < t.2.1.length ∨ 1000 < t.2.2.length then 3 else if attrsBad t.2.1 = true then 1 else rowsE 0 t.2.1.length t.2.2
theorem drop_at {α : Type} {l : List α} {k : Nat} {x : α} (h : l[k]? = some x) : l.drop k = x :: l.drop (k + 1) := by
  obtain ⟨hk, rfl⟩ := List.getElem?_eq_some_iff.1 h
  exact List.drop_eq_getElem_cons hk
theorem cells3 {w : World} {a b c : Value} {t : TypeId} (W : World) (h : Below (w.alloc (.cells #[a, b, c] t)).heap.size (w.alloc (.cells #[a, b, c] t)) W) :
    W.cell? ⟨w.heap.size, 0, none⟩ = some a ∧ W.cell? ⟨w.heap.size, 1, none⟩ = some b ∧ W.cell? ⟨w.heap.size, 2, none⟩ = some c :=
  ⟨(h.cell (p := ⟨w.heap.size, 0, none⟩) (by simp)).trans (by simp), (h.cell (p := ⟨w.heap.size, 1, none⟩) (by simp)).trans (by simp), (h.cell (p := ⟨w.heap.size, 2, none⟩) (by simp)).trans (by simp)⟩

set_option maxHeartbeats 1600000 in
theorem tvalid_any (t : T3) (av rv : Value) (w : World) (ht : RdT w av rv t) :
    Calls Tryz.prog 66 #[.agg #[.string t.1, av, rv]] w fun e w' => e = .returned (.int .i64 (tabE t)) ∧ Below w.heap.size w w' := by
  obtain ⟨nm, ats, rs⟩ := t
  obtain ⟨ha, hr⟩ := ht
  have TE := hid (show tabE (nm, ats, rs) = if nameB nm = false then 1 else if 16 < ats.length ∨ 1000 < rs.length then 3 else if attrsBad ats = true then 1 else rowsE 0 ats.length rs from rfl)
  have hb0 := below_alloc w (.cells #[.string nm, av, rv] 48)
  have C3 := hid (fun W h => cells3 (w := w) (a := .string nm) (b := av) (c := rv) (t := 48) W h)
  have A0 := hid (ha.below hb0)
  have R0 := hid (hr.below hb0)
  obtain ⟨w0, hw0⟩ : ∃ w0 : World, w.alloc (.cells #[.string nm, av, rv] 48) = w0 := ⟨_, rfl⟩
  rw [hw0] at hb0 A0 R0 C3
  have B0 := hid hb0
  have W0 := hid hw0
  clear ha hr hb0 hw0
  have N := hid (isName_any nm w0)
  have NA := hid (fun (a : ByteArray) (W : World) => isName_any a W)
  have CT := hid (fun (xs : List ByteArray) (s : ByteArray) (v : Value) (W : World) (h : RdE encT W v xs) => containsT_any xs s v W h)
  have VV := hid (fun (xs : List V3) (v : Value) (W : World) (h : RdV W v xs) => validValues_any xs v W h)
  obtain ⟨ao, acap, rfl, hal, hac0⟩ := A0.out.split
  have hac : ats.length ≤ acap := by
    obtain ⟨ao', cap', he, h1, -⟩ := A0.out
    cases he; exact h1
  have AC := hid hac0
  obtain ⟨ro, rcap, rfl, hrl, hrc⟩ := RdR.split R0.out
  have RC := hid hrc
  clear hac0 hrc
  have go : ∀ r : Int, tabE (nm, ats, rs) = r → Calls Tryz.prog 66 #[.agg #[.string nm, .slice ao ats.length acap, .slice ro rs.length rcap]] w fun e w' => e = .returned (.int .i64 r) ∧ Below w.heap.size w w' := by
    intro r hr
    rw [hr] at TE
    clear hr
    obtain ⟨c0, c1, c2⟩ := C3.out w0 (Below.refl _ _)
    cases hn : nameB nm with
    | false =>
      rw [hn] at N TE
      rw [if_pos rfl] at TE
      clear hn
      go_enter Tryz.func66, Tryz.ntmps66
      go_wp2_with fail
      rw [W0.out]
      refine N.out.mono ?_
      rintro e w' ⟨rfl, rfl⟩
      go_wp2_with fail
      go_ret
      exact ⟨ret_int TE.out.symm, B0.out⟩
    | true =>
      rw [hn] at N TE
      rw [if_neg (by simp)] at TE
      clear hn
      by_cases h16 : ats.length ≤ 16
      · have d16 : decide ((ats.length : Int) > 16) = false := by simp; omega
        by_cases h1000 : rs.length ≤ 1000
        · have d1000 : decide ((rs.length : Int) > 1000) = false := by simp; omega
          rw [if_neg (by omega)] at TE
          have AB := hid (show attrsBad ats = (List.range ats.length).any (attrBad ats) from rfl)
          go_enter Tryz.func66, Tryz.ntmps66
          go_wp2_with fail
          rw [W0.out]
          refine N.out.mono ?_
          rintro e w' ⟨rfl, rfl⟩
          go_wp2_with fail
          go_loop [25] (fun i => ∃ k : Nat, k ≤ ats.length ∧ i = .int .i64 k ∧ Hid (((List.range ats.length).take k).any (attrBad ats) = false)) (fun i => ats.length - (intOf i).toNat)
          case atStart => exact ⟨0, Nat.zero_le _, rfl, hid rfl⟩
          case round =>
            obtain ⟨k, hk, rfl, H⟩ := hrel
            by_cases hlt : k < ats.length
            · obtain ⟨a, ha⟩ := get_some hlt
              obtain ⟨b, off, rfl, hd⟩ := AC.out k a ha
              have e0 : w0.cell? ⟨b, off + k, none⟩ = some (.string a) := hd w0 (Below.refl _ _)
              have AT := hid (attrBad_at ha)
              have RA := hid (range_at hlt)
              have N1 := hid (NA.out a w0)
              have TK := hid (RdE.takeT (k := k) A0.out (by omega))
              have CK := hid (CT.out _ a _ w0 TK.out)
              have BAD := hid (fun h : attrBad ats k = true => show (1 : Int) = r by rw [TE.out, if_pos (by rw [AB.out]; exact any_hit RA.out h)])
              have GOOD := hid (fun h : attrBad ats k = false => none_next RA.out h H.out)
              have k0 : (0 : Int) ≤ (k : Int) := by omega
              have k1 : (k : Int) ≤ (ats.length : Int) := by omega
              have k2 : (k : Int) ≤ (acap : Int) := by omega
              have k3 : k ≤ acap := by omega
              clear hd ha TK
              generalize (ats.take k).any (eqT a) = cb at *
              cases hn : nameB a with
              | false =>
                rw [hn] at N1 AT
                have RF := hid (BAD.out AT.out)
                clear BAD GOOD hn
                go_wp2_with fail
                refine N1.out.mono ?_
                rintro e w' ⟨rfl, rfl⟩
                go_wp2_with fail
                go_ret
                exact ⟨ret_int RF.out, B0.out⟩
              | true =>
                rw [hn] at N1 AT
                clear hn
                cases cb with
                | true =>
                  have RF := hid (BAD.out AT.out)
                  clear BAD GOOD
                  go_wp2_with fail
                  refine N1.out.mono ?_
                  rintro e w' ⟨rfl, rfl⟩
                  go_wp2_with fail
                  refine CK.out.mono ?_
                  rintro e w' ⟨rfl, rfl⟩
                  go_wp2_with fail
                  go_ret
                  exact ⟨ret_int RF.out, B0.out⟩
                | false =>
                  have G := hid (GOOD.out AT.out)
                  clear BAD GOOD
                  go_wp2_with fail
                  refine N1.out.mono ?_
                  rintro e w' ⟨rfl, rfl⟩
                  go_wp2_with fail
                  refine CK.out.mono ?_
                  rintro e w' ⟨rfl, rfl⟩
                  go_wp2_with fail
                  go_round
                  case rel => exact ⟨k + 1, by omega, by go_num, hid G.out⟩
                  case measure => simp [intOf]; omega
            · have HA := hid (any_end H.out (by simpa using hlt))
              have TE2 := hid (show r = rowsE 0 ats.length rs by rw [TE.out, if_neg (by rw [AB.out, HA.out]; simp)])
              go_wp2_with fail
              go_loopw [5, 45] (fun l i wr => ∃ (k : Nat) (L : Int), k ≤ rs.length ∧ i = .int .i64 k ∧ l = .int .i64 L ∧ Hid (r = rowsE L ats.length (rs.drop k)) ∧ Below w0.heap.size w0 wr) (fun _ i _ => rs.length - (intOf i).toNat)
              case atStart => exact ⟨0, 0, Nat.zero_le _, rfl, rfl, hid (by rw [TE2.out]; rfl), Below.refl _ _⟩
              case round =>
                obtain ⟨k, L, hk, rfl, rfl, H2, hnx⟩ := hrel
                have hsz := hnx.size
                by_cases hlt2 : k < rs.length
                · obtain ⟨⟨id, u, vs⟩, hx⟩ := get_some hlt2
                  obtain ⟨⟨b, off, rfl, hd⟩, hvs⟩ := RC.out k _ hx
                  obtain ⟨e0, e1⟩ := hd wr hnx
                  have VS := hid (show RdV wr u vs from hvs wr hnx)
                  obtain ⟨uo, ucap, rfl, -⟩ := RdV.split VS.out
                  have RE := hid (show r = if id ≤ L then 1 else if vs.length ≠ ats.length then 6 else if vs.any badV = true then 1 else rowsE id ats.length (rs.drop (k + 1)) by rw [H2.out, drop_at hx]; rfl)
                  have hb1 := below_alloc wr (.cells #[.int .i64 id, .slice uo vs.length ucap] 87)
                  have NX := hid (hnx.trans (hb1.mono hsz))
                  have VV1 := hid (VV.out vs _ _ (VS.out.below hb1))
                  have f0 : (wr.alloc (.cells #[.int .i64 id, .slice uo vs.length ucap] 87)).cell? ⟨wr.heap.size, 0, none⟩ = some (.int .i64 id) := by simp
                  have f1 : (wr.alloc (.cells #[.int .i64 id, .slice uo vs.length ucap] 87)).cell? ⟨wr.heap.size, 1, none⟩ = some (.slice uo vs.length ucap) := by simp
                  obtain ⟨g0, g1, g2⟩ := C3.out _ NX.out
                  have G1 := g1
                  obtain ⟨w1, hw1⟩ : ∃ w1 : World, wr.alloc (.cells #[.int .i64 id, .slice uo vs.length ucap] 87) = w1 := ⟨_, rfl⟩
                  rw [hw1] at NX VV1 f0 f1 g0 g1 g2
                  have W1 := hid hw1
                  clear hd hvs hx hb1 hw1 hnx c0 c1 c2
                  by_cases hid0 : id ≤ L
                  · have RF := hid (show (1 : Int) = r by rw [RE.out, if_pos hid0])
                    go_wp2_with fail
                    rw [W1.out]
                    go_wp2_with fail
                    go_ret
                    exact ⟨ret_int RF.out, B0.out.trans (NX.out.mono B0.out.size)⟩
                  · have RE2 := hid (show r = if vs.length ≠ ats.length then 6 else if vs.any badV = true then 1 else rowsE id ats.length (rs.drop (k + 1)) by rw [RE.out, if_neg hid0])
                    clear RE
                    by_cases hlen : vs.length = ats.length
                    · have RE3 := hid (show r = if vs.any badV = true then 1 else rowsE id ats.length (rs.drop (k + 1)) by rw [RE2.out, if_neg (by simpa using hlen)])
                      clear RE2
                      rw [hlen] at VV1 f1 G1 W1
                      cases hbv : vs.any badV with
                      | true =>
                        rw [hbv] at VV1 RE3
                        have RF := hid (show (1 : Int) = r by rw [RE3.out, if_pos rfl])
                        clear RE3 hbv
                        go_wp2_with fail
                        rw [W1.out]
                        go_wp2_with fail
                        refine VV1.out.mono ?_
                        rintro e w2 ⟨rfl, hb2⟩
                        have B2 := hid (NX.out.trans (hb2.mono NX.out.size))
                        clear hb2
                        go_wp2_with fail
                        go_ret
                        exact ⟨ret_int RF.out, B0.out.trans (B2.out.mono B0.out.size)⟩
                      | false =>
                        rw [hbv] at VV1 RE3
                        have RF := hid (show r = rowsE id ats.length (rs.drop (k + 1)) by rw [RE3.out, if_neg (by simp)])
                        clear RE3 hbv
                        go_wp2_with fail
                        rw [W1.out]
                        go_wp2_with fail
                        refine VV1.out.mono ?_
                        rintro e w2 ⟨rfl, hb2⟩
                        have B2 := hid (NX.out.trans (hb2.mono NX.out.size))
                        have p0 := (hb2.cell (p := ⟨wr.heap.size, 0, none⟩) (by rw [← W1.out]; simp)).trans f0
                        clear hb2
                        go_wp2_with fail
                        go_roundw
                        case rel => exact ⟨k + 1, id, by omega, by go_num, rfl, hid RF.out, B2.out⟩
                        case measure => simp [intOf]; omega
                    · have RF := hid (show (6 : Int) = r by rw [RE2.out, if_pos hlen])
                      have q1 : ((vs.length : Int) == (ats.length : Int)) = false := by simp; omega
                      have q2 : ¬ (vs.length : Int) = (ats.length : Int) := by omega
                      have q3 : ((vs.length : Int) != (ats.length : Int)) = true := by simp; omega
                      have q4 : (vs.length == ats.length) = false := by simpa using hlen
                      clear RE2
                      go_wp2_with fail
                      rw [W1.out]
                      go_wp2_with fail
                      go_ret
                      exact ⟨ret_int RF.out, B0.out.trans (NX.out.mono B0.out.size)⟩
                · have RF := hid (show (0 : Int) = r by rw [H2.out, List.drop_eq_nil_of_le (by omega)]; rfl)
                  have HN := hid hnx
                  obtain ⟨g0, g1, g2⟩ := C3.out _ hnx
                  clear hnx
                  go_wp2_with fail
                  go_ret
                  exact ⟨ret_int RF.out, B0.out.trans (HN.out.mono B0.out.size)⟩
        · have d1000 : decide ((rs.length : Int) > 1000) = true := by simp; omega
          have RF := hid (show (3 : Int) = r by rw [TE.out, if_pos (by omega)])
          clear TE
          go_enter Tryz.func66, Tryz.ntmps66
          go_wp2_with fail
          rw [W0.out]
          refine N.out.mono ?_
          rintro e w' ⟨rfl, rfl⟩
          go_wp2_with fail
          go_ret
          exact ⟨ret_int RF.out, B0.out⟩
      · have d16 : decide ((ats.length : Int) > 16) = true := by simp; omega
        have RF := hid (show (3 : Int) = r by rw [TE.out, if_pos (by omega)])
        clear TE
        go_enter Tryz.func66, Tryz.ntmps66
        go_wp2_with fail
        rw [W0.out]
        refine N.out.mono ?_
        rintro e w' ⟨rfl, rfl⟩
        go_wp2_with fail
        go_ret
        exact ⟨ret_int RF.out, B0.out⟩
  exact go _ rfl

end Go.Proofs.YtgahpgmagfngfaaGreatDoor


/- The walks of drossref03's Attr (with its value), Names and Valid, and of the checks of chapter 27. -/
namespace Go.Proofs.YtgahpgmagfngfaaGreatDoor
open Go.RowKit



end Go.Proofs.YtgahpgmagfngfaaGreatDoor


/- The walks of drossref03.Valid, agree.check and drossref27.Error. -/
namespace Go.Proofs.YtgahpgmagfngfaaGreatDoor
open Go.RowKit


/-- The error of a table for chapter 27: no more than 200 rows. -/
def tabE2 (t : T3) : Int := if tabE t ≠ 0 then tabE t else if 200 < t.2.2.length then 3 else 0


end Go.Proofs.YtgahpgmagfngfaaGreatDoor

