/- The walks of keys: supers, extreme. -/
import Derived.Test.YtciamnkalmihcaaKeys1
import Derived.OwnWalk
import Derived.Laws.OwnMore
namespace Go.Proofs.Ytciamnkalmihcaa
open Go.RowKit

def encB (b : Bool) : Value := .bool b
theorem infoBool : (Try.prog.info? 4).map (fun i => (i.zero, i.size, i.bytes)) = some (some (.bool false), 1, 1) := by kernel_rfl
theorem undBools : Try.prog.underlying 98 = some (.slice 4) := by kernel_rfl

/-- The row of booleans on the way. -/
def qL (N : Nat) (q : Nat → Bool) (k : Nat) : List Bool := (List.range N).map fun j => decide (j < k) && q j
theorem qL_length (N : Nat) (q : Nat → Bool) (k : Nat) : (qL N q k).length = N := by unfold qL; simp
theorem qL_zero (N : Nat) (q : Nat → Bool) : (qL N q 0).map encB = List.replicate N (.bool false) := by
  unfold qL
  rw [List.map_map]
  apply List.ext_getElem (by simp)
  intro i h1 h2
  simp [encB]
theorem qL_set (N : Nat) (q : Nat → Bool) (k : Nat) : ((qL N q k).map encB).set k (.bool (q k)) = (qL N q (k + 1)).map encB := by
  unfold qL
  apply List.ext_getElem (by simp)
  intro i h1 h2
  rw [List.getElem_set]
  simp only [List.getElem_map, List.getElem_range, encB]
  by_cases e : k = i
  · subst e; simp
  · rw [if_neg e]
    have : decide (i < k) = decide (i < k + 1) := by rw [decide_eq_decide]; omega
    rw [this]
theorem qL_all (N : Nat) (q : Nat → Bool) {k : Nat} (h : N ≤ k) : qL N q k = (List.range N).map q := by
  unfold qL
  apply List.map_congr_left
  intro j hj
  rw [List.mem_range] at hj
  rw [decide_eq_true (by omega)]; rfl
theorem u32_ofNat (k : Nat) : IntKind.u32.wrap (k : Int) = iv (BitVec.ofNat 32 k) := by
  rw [IntKind.wrap_u32]; unfold iv; rw [BitVec.toNat_ofNat]; omega
theorem i64_wrapN {N : Nat} (h : N ≤ 65536) : IntKind.i64.wrap (N : Int) = (N : Int) := by rw [IntKind.wrap_i64]; omega
theorem i64_pow {m : Nat} (h : m ≤ 16) : IntKind.i64.wrap ((2 : Int) ^ m) = ((2 ^ m : Nat) : Int) := by
  have e : ((2 : Int) ^ m) = ((2 ^ m : Nat) : Int) := by rw [Int.natCast_pow]; rfl
  have k : 2 ^ m ≤ 2 ^ 16 := Nat.pow_le_pow_right (by omega) h
  rw [e]
  exact i64_wrapN (by omega)
noncomputable def fullB (fs : List F) (m : Nat) (s : S) : Bool := closeS fs s == fullN m

set_option maxHeartbeats 800000 in
theorem supers_any (m : Nat) (hm : m ≤ 16) (fs : List F) (v : Value) (w : World) (hv : RdF w v fs) :
    Calls Try.prog 73 #[.int .i64 (m : Int), v] w fun e w' => ∃ v', e = .returned v' ∧ RdE encB w' v' ((List.range (2 ^ m)).map fun k => fullB fs m (BitVec.ofNat 32 k)) ∧ Below w.heap.size w w' := by
  have C := hid (fun (s : S) (W : World) (h : Below w.heap.size w W) => close_any fs s v W (hv.below h))
  have FU := hid (fun (W : World) => kfull_any m hm W)
  obtain ⟨ao, cap, rfl, -⟩ := hv.split
  clear hv
  have hN2 : 2 ^ m ≤ 2 ^ 16 := Nat.pow_le_pow_right (by omega) hm
  have hw := i64_pow hm
  have FB := hid (fun k => show fullB fs m (BitVec.ofNat 32 k) = (closeS fs (BitVec.ofNat 32 k) == fullN m) from rfl)
  obtain ⟨q, hq⟩ : ∃ q : Nat → Bool, (fun k => fullB fs m (BitVec.ofNat 32 k)) = q := ⟨_, rfl⟩
  have Q := hid (fun k => show q k = (closeS fs (BitVec.ofNat 32 k) == fullN m) by rw [← hq]; exact FB.out k)
  rw [hq]
  clear hq FB
  have m0 : (0 : Int) ≤ (m : Int) := by omega
  have m1 : (m : Int) ≤ 64 := by omega
  generalize fullN m = fl at *
  generalize hN : 2 ^ m = N at *
  clear hN
  obtain ⟨i0, hi, hz0, hz1, hz2⟩ := info_parts infoBool
  simp only [enc_eq] at C FU
  go_enter Try.func73, Try.ntmps73
  go_wp2_with (at_make; refine wpList_make_full _ rfl _ _ 98 rfl w.heap.size 4 i0 (.bool false) 1 undBools hi hz0 hz1 _ _ _ _ N rfl rfl (by simp) (by simp) (by rw [hz2]; omega) (by unfold maxLen; omega) (Nat.le_refl _) ?_)
  intro w1 hown hgrow
  have hb1 : Below w.heap.size w w1 := ⟨hgrow.os, hgrow.tape, hgrow.output, hgrow.size, fun k hk => hgrow.block k hk (fun e => by cases e)⟩
  have B1 := hid hb1
  have O1 := hid (show w1.ownsRow w.heap.size 4 1 (.slice (some ⟨w.heap.size, 0, none⟩) N N) N ((qL N q 0).map encB) by
    rw [qL_zero]; first | exact hown | simpa [toList_madeCells_one, Value.cells] using hown)
  clear hown hgrow hb1 hi hz0 hz1 hz2
  go_wp2_with fail
  go_loopw [12] (fun i wr => ∃ k : Nat, k ≤ N ∧ i = .int .i64 k ∧ wr.ownsRow w.heap.size 4 1 (.slice (some ⟨w.heap.size, 0, none⟩) N N) N ((qL N q k).map encB) ∧ Below w.heap.size w wr) (fun i _ => N - (intOf i).toNat)
  case atStart => exact ⟨0, Nat.zero_le _, rfl, O1.out, B1.out⟩
  case round =>
    obtain ⟨k, hk, rfl, hown, hnx⟩ := hrel
    by_cases hlt : k < N
    · have hcv := u32_ofNat k
      have C1 := hid (C.out (BitVec.ofNat 32 k) _ hnx)
      have Q1 := hid (Q.out k)
      have QS := hid (qL_set N q k)
      have k0 : (0 : Int) ≤ (k : Int) := by omega
      have k1 : (k : Int) < (N : Int) := by omega
      have HO := hid hown
      have HN := hid hnx
      clear hown hnx
      generalize closeS fs (BitVec.ofNat 32 k) = c at *
      generalize BitVec.ofNat 32 k = s at *
      go_wp2_with fail
      refine C1.out.mono ?_
      rintro e w3 ⟨rfl, hb3⟩
      have O3 := hid (own_below HO.out hb3)
      have N3 := hid (HN.out.trans (hb3.mono HN.out.size))
      clear hb3 HO HN
      go_wp2_with fail
      refine (FU.out _).mono ?_
      rintro e w' ⟨rfl, rfl⟩
      have hfz : w3.frozen? ⟨w.heap.size, k, none⟩ = false := O3.out.frozenAt _
      have hcell : w3.cell? ⟨w.heap.size, k, none⟩ = some (((qL N q k).map encB).getD k (.bool false)) := by
        rw [O3.out.cellAt k (by omega)]
        have : k < ((qL N q k).map encB).length := by rw [List.length_map, qL_length]; exact hlt
        rw [List.getD_eq_getElem?_getD, List.getElem?_eq_getElem this]; rfl
      generalize ((qL N q k).map encB).getD k (.bool false) = old at *
      go_wp2_with fail
      have ST := O3.out.stored k (.bool (c == fl))
      rw [← Q1.out, QS.out] at ST
      rw [← Q1.out]
      go_roundw
      case rel => exact ⟨k + 1, by omega, by go_num, ST.1, N3.out.grown ST.2 N3.out.size (fun j hj => by cases hj; exact Nat.le_refl _)⟩
      case measure => simp [intOf]; omega
    · rw [qL_all N q (by omega)] at hown
      have R := hid (RdE.of_owns (f := encB) (xs := (List.range N).map q) (by simpa using hown) (by simp; omega))
      go_wp2_with fail
      go_ret
      exact ⟨_, rfl, R.out, hnx⟩

/-! The extreme sets. -/
theorem i64_xor {x y : Nat} (hx : x < 2 ^ 20) (hy : y < 2 ^ 20) : bits .xor .i64 (x : Int) (y : Int) = ((x ^^^ y : Nat) : Int) := by
  have e : bits .xor .i64 (x : Int) (y : Int) = IntKind.i64.wrap ((BitVec.ofInt 64 (x : Int) ^^^ BitVec.ofInt 64 (y : Int)).toNat : Int) := rfl
  have h : x ^^^ y < 2 ^ 20 := Nat.xor_lt_two_pow hx hy
  have a1 : (BitVec.ofInt 64 (x : Int)).toNat = x := by rw [BitVec.ofInt_natCast, BitVec.toNat_ofNat]; exact Nat.mod_eq_of_lt (by omega)
  have a2 : (BitVec.ofInt 64 (y : Int)).toNat = y := by rw [BitVec.ofInt_natCast, BitVec.toNat_ofNat]; exact Nat.mod_eq_of_lt (by omega)
  rw [e, BitVec.toNat_xor, a1, a2, IntKind.wrap_i64]
  omega
def worseB (Q : Nat → Bool) (want : Bool) (k a : Nat) : Bool := (decide (k ^^^ 2 ^ a < k) == want) && (Q (k ^^^ 2 ^ a) == want)
def extP (Q : Nat → Bool) (want : Bool) (k : Nat) (j : Nat) : Bool := (Q k == want) && !(List.range j).any (worseB Q want k)
theorem extP_zero (Q : Nat → Bool) (want : Bool) (k : Nat) : extP Q want k 0 = (Q k == want) := by unfold extP; simp
theorem extP_next (Q : Nat → Bool) (want : Bool) (k j : Nat) : extP Q want k (j + 1) = (extP Q want k j && !worseB Q want k j) := by
  unfold extP; rw [List.range_succ, List.any_append]
  cases (Q k == want) <;> cases (List.range j).any (worseB Q want k) <;> simp
theorem extP_false {Q : Nat → Bool} {want : Bool} {k j : Nat} (h : extP Q want k j = false) : ∀ d, extP Q want k (j + d) = false := by
  intro d
  induction d with
  | zero => exact h
  | succ d ih => rw [show j + (d + 1) = (j + d) + 1 by omega, extP_next, ih]; rfl

set_option maxHeartbeats 1600000 in
theorem extreme_any (m : Nat) (hm : m ≤ 16) (Q : Nat → Bool) (want : Bool) (v : Value) (w : World) (hv : RdE encB w v ((List.range (2 ^ m)).map Q)) :
    Calls Try.prog 72 #[.int .i64 (m : Int), v, .bool want] w fun e w' => ∃ v' ys, e = .returned v' ∧ w'.ownsRow w.heap.size 24 1 v' ys.length (ys.map enc) ∧ IsOrd ys (fun s => s.toNat < 2 ^ m ∧ extP Q want s.toNat m = true) ∧ ys.length ≤ 65536 ∧ Below w.heap.size w w' := by
  have AO := hid (fun (xs : List S) (u : Value) (W : World) (h : RdE enc W u xs) (hh : xs.length < 17592186044416) => aorder_any xs u W h hh)
  have hN2 : 2 ^ m ≤ 2 ^ 16 := Nat.pow_le_pow_right (by omega) hm
  have XL := hid (fun (k a : Nat) (hk : k < 2 ^ m) (ha : a < m) => show k ^^^ 2 ^ a < 2 ^ m from Nat.xor_lt_two_pow hk (Nat.pow_lt_pow_right (by omega) ha))
  have PA := hid (fun (a : Nat) (ha : a < m) => i64_pow (m := a) (by omega))
  have PX := hid (fun (k a : Nat) (hk : k < 2 ^ m) (ha : a < m) => i64_xor (x := k) (y := 2 ^ a) (by omega) (by have : 2 ^ a ≤ 2 ^ 16 := Nat.pow_le_pow_right (by omega) (by omega); omega))
  have hlen : ((List.range (2 ^ m)).map Q).length = 2 ^ m := by simp
  obtain ⟨ao, cap, rfl, -, hc⟩ := hv.split
  rw [hlen]
  have GC := hid (fun (k : Nat) (hk : k < 2 ^ m) => show ∃ b off, ao = some ⟨b, off, none⟩ ∧ ∀ wr, Below w.heap.size w wr → wr.cell? ⟨b, off + k, none⟩ = some (.bool (Q k)) by
    obtain ⟨b, off, h1, h2⟩ := hc k (Q k) (by simp [hk])
    exact ⟨b, off, h1, h2⟩)
  have WB := hid (fun k a => show worseB Q want k a = ((decide (k ^^^ 2 ^ a < k) == want) && (Q (k ^^^ 2 ^ a) == want)) from rfl)
  have E0 := hid (extP_zero Q want)
  have EN := hid (extP_next Q want)
  have EF := hid (fun (k j : Nat) (h : extP Q want k j = false) (hj : j ≤ m) => show extP Q want k m = false by have := extP_false h (m - j); rwa [show j + (m - j) = m by omega] at this)
  clear hv hc hlen
  generalize extP Q want = ex at *
  generalize worseB Q want = wb at *
  generalize hN : 2 ^ m = N at *
  have m0 : (0 : Int) ≤ (m : Int) := by omega
  clear hN
  go_enter Try.func72, Try.ntmps72
  go_wp2_with fail
  go_loopw [7, 15] (fun u i wr => ∃ (k : Nat) (xs : List S), k ≤ N ∧ i = .int .i64 k ∧ wr.ownsRow w.heap.size 24 1 u xs.length (xs.map enc) ∧ xs.length ≤ k ∧ Hid (∀ y, y ∈ xs ↔ y.toNat < k ∧ ex y.toNat m = true) ∧ Below w.heap.size w wr) (fun _ i _ => N - (intOf i).toNat)
  case atStart => exact ⟨0, [], Nat.zero_le _, rfl, World.ownsRow_nil _ _ _ _, by simp, hid (by simp), Below.refl _ _⟩
  case round =>
    obtain ⟨k, xs, hk, rfl, hown, hlen, M, hnx⟩ := hrel
    obtain ⟨wo, rfl⟩ : ∃ wo : World, wo = wr := ⟨_, rfl⟩
    have hsz := hnx.size
    by_cases hlt : k < N
    · obtain ⟨b, off, rfl, hq⟩ := GC.out k hlt
      have e0 := hq wo hnx
      have GC1 := hid (fun (j : Nat) (hj : j < N) => show wo.cell? ⟨b, off + j, none⟩ = some (.bool (Q j)) by
        obtain ⟨b', off', h1, h2⟩ := GC.out j hj
        cases h1
        exact h2 wo hnx)
      have E1 := hid (E0.out k)
      have k0 : (0 : Int) ≤ (k : Int) := by omega
      clear hq
      go_wp2_with fail
      go_loop [10, 11] (fun o i => ∃ j : Nat, j ≤ m ∧ i = .int .i64 j ∧ o = .bool (ex k j)) (fun _ i => m - (intOf i).toNat)
      case atStart => exact ⟨0, Nat.zero_le _, rfl, by rw [E1.out]⟩
      case round =>
        obtain ⟨j, hj, rfl, rfl⟩ := hrel
        cases ho : ex k j with
        | false =>
          have EM := hid (EF.out k j ho hj)
          have M2 := hid (show ∀ y, y ∈ xs ↔ y.toNat < k + 1 ∧ ex y.toNat m = true by
            intro y
            rw [M.out y]
            constructor
            · rintro ⟨h1, h2⟩; exact ⟨by omega, h2⟩
            · rintro ⟨h1, h2⟩
              refine ⟨?_, h2⟩
              by_cases e : y.toNat = k
              · rw [e, EM.out] at h2; cases h2
              · omega)
          clear ho M
          by_cases hjm : j < m
          · go_wp2_with fail
            go_roundw
            case rel => exact ⟨k + 1, xs, by omega, by go_num, hown, by omega, M2, hnx⟩
            case measure => simp [intOf]; omega
          · go_wp2_with fail
            go_roundw
            case rel => exact ⟨k + 1, xs, by omega, by go_num, hown, by omega, M2, hnx⟩
            case measure => simp [intOf]; omega
        | true =>
          by_cases hjm : j < m
          · have hw := PA.out j hjm
            have hx := PX.out k j hlt hjm
            have EN1 := hid (EN.out k j)
            have WB1 := hid (WB.out k j)
            have hxl := XL.out k j hlt hjm
            have e1 := GC1.out (k ^^^ 2 ^ j) hxl
            have j0 : (0 : Int) ≤ (j : Int) := by omega
            have j1 : (j : Int) ≤ 64 := by omega
            generalize Q (k ^^^ 2 ^ j) = qn at *
            have EV := hid (show ex k (j + 1) = (true && !((decide (k ^^^ 2 ^ j < k) == want) && (qn == want))) by rw [EN1.out, WB1.out, ho])
            generalize k ^^^ 2 ^ j = nx at *
            generalize 2 ^ j = pj at *
            have n0 : (0 : Int) ≤ (nx : Int) := by omega
            have n1 : (nx : Int) < (N : Int) := by omega
            clear ho EN1 WB1
            by_cases hnk : nx < k
            · have hnk2 : ((nx : Int) < (k : Int)) := by omega
              cases want <;> cases qn
              all_goals
                go_wp2_with fail
                go_round
                case rel => exact ⟨j + 1, by omega, by go_num, by rw [EV.out]; simp [hnk]⟩
                case measure => simp [intOf]; omega
            · have hnk2 : ¬ ((nx : Int) < (k : Int)) := by omega
              cases want <;> cases qn
              all_goals
                go_wp2_with fail
                go_round
                case rel => exact ⟨j + 1, by omega, by go_num, by rw [EV.out]; simp [hnk]⟩
                case measure => simp [intOf]; omega
          · obtain rfl : j = m := by omega
            have EM := hid ho
            have hkl : k < 4294967296 := by omega
            have M2 := hid (show ∀ y, y ∈ xs ++ [BitVec.ofNat 32 k] ↔ y.toNat < k + 1 ∧ ex y.toNat j = true by
              intro y
              rw [List.mem_append, List.mem_singleton, M.out y]
              constructor
              · rintro (⟨h1, h2⟩ | rfl)
                · exact ⟨by omega, h2⟩
                · rw [BitVec.toNat_ofNat, Nat.mod_eq_of_lt (by omega)]; exact ⟨by omega, EM.out⟩
              · rintro ⟨h1, h2⟩
                by_cases e : y.toNat = k
                · exact .inr (by rw [← e]; simp)
                · exact .inl ⟨by omega, h2⟩)
            have hcv := u32_ofNat k
            clear ho M
            go_wp2_with (at_builtin; refine wpList_push rfl _ _ 34 rfl w.heap.size 24 (.int .u32 0) 4 undSets infoSet rfl (by decide) enc (fun _ => rfl) _ xs rfl (hown.alloc _) ⟨wo.heap.size, 0, none⟩ (BitVec.ofNat 32 k) rfl cell_new (by omega) (by simp; omega) ?_)
            intro v' w1 hown' hgrow
            have hb1 := below_push hnx hsz hown hgrow
            clear hgrow hown hnx
            go_wp2_with fail
            go_roundw
            case rel => exact ⟨k + 1, xs ++ [BitVec.ofNat 32 k], by omega, by go_num, by simpa using hown', by rw [List.length_append, List.length_singleton]; omega, M2, hb1⟩
            case measure => simp [intOf]; omega
    · obtain rfl : k = N := by omega
      have R := hid (RdE.of_owns hown (by omega))
      clear hown
      go_wp2_with fail
      refine (AO.out xs _ _ R.out (by omega)).mono ?_
      rintro e w2 ⟨v2, ys, rfl, ho2, hord, hyl, hb2⟩
      have B2 := hid (hnx.trans (hb2.mono hsz))
      have O2 := hid (own_mono ho2 hsz)
      have OR := hid (hord.congr M.out)
      clear hb2 ho2 hord hnx
      go_wp2_with fail
      go_ret
      exact ⟨_, ys, rfl, O2.out, OR.out, by omega, B2.out⟩

end Go.Proofs.Ytciamnkalmihcaa
