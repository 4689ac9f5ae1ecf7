/- Texts that belong together, in one file. -/
import Derived.Test.YtcfcmalaabmceaaGreatDoorGKm1
import Derived.Test.YtcfcmalaabmceaaGreatDoorGFd
import Derived.Test.YtcfcmalaabmceaaGreatDoorGSort
import Derived.Test.YtcfcmalaabmceaaGreatDoorGPlain
import Derived.Test.YtcfcmalaabmceaaGreatDoorListD
import Derived.Test.YtcfcmalaabmceaaGreatDoorGCovM
import Derived.Test.YtcfcmalaabmceaaGreatDoorGLaws07
import Derived.OwnWalk
import Derived.Laws.OwnMore
import Derived.Test.YtcfcmalaabmceaaGreatDoorGKm3
import Derived.Test.YtcfcmalaabmceaaGreatDoorGMid
import Derived.Test.YtcfcmalaabmceaaGreatDoorGFdmB
import Derived.Test.YtcfcmalaabmceaaGreatDoorGTab27
import Derived.Test.YtcfcmalaabmceaaGreatDoorGFdmC
import Derived.Test.YtcfcmalaabmceaaGreatDoorGTab30
import Derived.Test.YtcfcmalaabmceaaGreatDoorGKm2
import Derived.Test.YtcfcmalaabmceaaGreatDoorGWalk
import Derived.Test.YtcfcmalaabmceaaGreatDoorApp0
import Derived.Test.YtcfcmalaabmceaaGreatDoorGTab14
import Derived.Test.YtcfcmalaabmceaaGreatDoorGTab20
/- The walks of Closed, the program's and the reference's: all closed sets of the first attributes, in order. -/
namespace Go.Proofs.YtcfcmalaabmceaaGreatDoor
open Go.RowKit


/-- The error of Closed, and what it lists. -/
def cloE (n : Int) (fs : List F) : Int := if n < 0 ∨ 16 < n then 7 else if 12 < n then 3 else validF n fs
def ClosedP (n : Int) (fs : List F) (ys : List S) : Prop := (cloE n fs ≠ 0 → ys = []) ∧ (cloE n fs = 0 → IsOrd ys (fun s => sub s (fullN n.toNat) ∧ closedF fs s))
theorem ClosedP.uniq {n : Int} {fs : List F} {xs ys : List S} (h : ClosedP n fs xs) (k : ClosedP n fs ys) : xs = ys := by
  by_cases e : cloE n fs = 0
  · exact (h.2 e).uniq (k.2 e) fun _ => Iff.rfl
  · rw [h.1 e, k.1 e]





end Go.Proofs.YtcfcmalaabmceaaGreatDoor


/- Plain laws: dependencies within a set stay within it. -/
namespace Go.Proofs.YtcfcmalaabmceaaGreatDoor
open Go.RowKit

def W2 (A : S) (l : List F) : Prop := ∀ f ∈ l, sub f.1 A ∧ sub f.2 A
theorem w2_list (A : S) (ds : List D8) : W2 A (listF A ds) := by
  intro f h
  unfold listF at h
  obtain ⟨d, _, rfl⟩ := List.mem_map.1 h
  exact ⟨and_sub_right _ _, and_sub_right _ _⟩
theorem w2_valid {n : Nat} (h : n ≤ 16) {l : List F} (hl : l.length ≤ 64) (hw : W2 (fullN n) l) : validF n l = 0 := by
  unfold validF
  rw [if_neg (by omega), if_neg (by omega), if_neg]
  rw [Bool.not_eq_true, List.any_eq_false]
  intro f hf
  obtain ⟨h1, h2⟩ := hw f hf
  rw [show (n : Int).toNat = n by omega, outF_sub, decide_eq_true h1, decide_eq_true h2]; simp

end Go.Proofs.YtcfcmalaabmceaaGreatDoor


/- Plain laws of keys: superkeys, keys, antikeys, what they have to do with minimal transversals. No program. -/
namespace Go.Proofs.YtcfcmalaabmceaaGreatDoor

theorem validF_w2 {n : Int} {fs : List F} (h : validF n fs = 0) : 0 ≤ n ∧ n ≤ 16 ∧ fs.length ≤ 64 ∧ W2 (fullN n.toNat) fs := by
  unfold validF at h
  split at h
  · simp at h
  · rename_i h1
    split at h
    · simp at h
    · rename_i h2
      split at h
      · simp at h
      · rename_i h3
        refine ⟨by omega, by omega, by omega, fun f hf => ?_⟩
        rw [Bool.not_eq_true, List.any_eq_false] at h3
        have := h3 f hf
        rw [outF_sub] at this
        simpa using this

/-- A set is a superkey. -/
noncomputable def supB (n : Int) (fs : List F) (s : S) : Bool := decide (validF n fs = 0) && (s >>> n.toNat == 0#32) && (closeS fs s == fullN n.toNat)
theorem supB_bad {n : Int} {fs : List F} (h : validF n fs ≠ 0) (s : S) : supB n fs s = false := by unfold supB; rw [decide_eq_false h]; rfl
theorem supB_iff {n : Int} {fs : List F} (h : validF n fs = 0) {s : S} : supB n fs s = true ↔ sub s (fullN n.toNat) ∧ closeS fs s = fullN n.toNat := by
  unfold supB; rw [decide_eq_true h, sub_full]; simp
theorem supB_valid {n : Int} {fs : List F} {s : S} (h : supB n fs s = true) : validF n fs = 0 := by
  apply Classical.byContradiction; intro k; rw [supB_bad k] at h; cases h
theorem supB_sub {n : Int} {fs : List F} {s : S} (h : supB n fs s = true) : sub s (fullN n.toNat) := ((supB_iff (supB_valid h)).1 h).1

/-- A set has the property no longer without some member. -/
def leavesB (p : S → Bool) (s : S) (n : Nat) : Bool := (List.range n).any (fun i => s.getLsbD i && p (s &&& ~~~ bit i))
theorem leavesB_none {p : S → Bool} {s : S} {n : Nat} (h : ∀ i, i < n → (s.getLsbD i && p (s &&& ~~~ bit i)) = false) : leavesB p s n = false := by
  unfold leavesB; rw [List.any_eq_false]; intro i hi; simp only [h i (List.mem_range.1 hi)]; simp
theorem leavesB_iff {p : S → Bool} {s : S} : leavesB p s 32 = false ↔ ∀ i, i < 32 → s.getLsbD i = true → p (s &&& ~~~ bit i) = false := by
  constructor
  · intro h i hi hs
    unfold leavesB at h; rw [List.any_eq_false] at h
    have := h i (List.mem_range.2 hi)
    rw [hs] at this; simpa using this
  · intro h
    refine leavesB_none fun i hi => ?_
    cases hs : s.getLsbD i with
    | false => rfl
    | true => rw [h i hi hs]; rfl
noncomputable def keyQ (n : Int) (fs : List F) (s : S) : Bool := supB n fs s && !leavesB (supB n fs) s 32
theorem keyQ_sup {n : Int} {fs : List F} {s : S} (h : keyQ n fs s = true) : supB n fs s = true := by unfold keyQ at h; simp at h; exact h.1
theorem less_ne {s : S} {i : Nat} (hi : i < 32) (hs : s.getLsbD i = true) : s &&& ~~~ bit i ≠ s := fun e => by
  have := andNot_bit s i i hi
  rw [e, hs] at this; simp at this
theorem less_subK (s : S) (i : Nat) : sub (s &&& ~~~ bit i) s := fun j hj h => by rw [andNot_bit s i j hj] at h; simp at h; exact h.1


/-! The lists. -/
def listB (p : S → Bool) : List S := ordS (((List.range 4294967296).map (BitVec.ofNat 32)).filter p)
theorem listB_ord (p : S → Bool) : IsOrd (listB p) (fun s => p s = true) := by
  unfold listB
  refine (ordS_ord _).congr fun x => ?_
  rw [List.mem_filter]
  exact ⟨fun k => k.2, fun k => ⟨List.mem_map.2 ⟨x.toNat, List.mem_range.2 x.isLt, by simp⟩, k⟩⟩
attribute [irreducible] listB
theorem listB_of {p : S → Bool} {ys : List S} (h : IsOrd ys (fun s => p s = true)) : ys = listB p := h.uniq (listB_ord p) fun _ => Iff.rfl
noncomputable def keysS (n : Int) (fs : List F) : List S := listB (keyQ n fs)
noncomputable def keyR (n : Int) (fs : List F) : List S := if validF n fs = 0 then keysS n fs else []
theorem full_pow {m : Nat} (_h : m ≤ 32) {s : S} : sub s (fullN m) → s.toNat < 2 ^ m := fun hs => lt_of_bits fun i hi hm => by
  cases hb : s.getLsbD i with
  | false => rfl
  | true => have := hs i hi hb; rw [fullN_get m i hi, decide_eq_true_iff] at this; omega

/-! Certificates. -/

end Go.Proofs.YtcfcmalaabmceaaGreatDoor


/- The walks of keys: full, Superkey, Is, Reduce. -/
namespace Go.Proofs.YtcfcmalaabmceaaGreatDoor
open Go.RowKit

theorem shl_fullK {m : Nat} (h : m ≤ 16) : 1#32 <<< m - 1#32 = fullN m := by
  have : m = 0 ∨ m = 1 ∨ m = 2 ∨ m = 3 ∨ m = 4 ∨ m = 5 ∨ m = 6 ∨ m = 7 ∨ m = 8 ∨ m = 9 ∨ m = 10 ∨ m = 11 ∨ m = 12 ∨ m = 13 ∨ m = 14 ∨ m = 15 ∨ m = 16 := by omega
  rcases this with rfl | rfl | rfl | rfl | rfl | rfl | rfl | rfl | rfl | rfl | rfl | rfl | rfl | rfl | rfl | rfl | rfl <;> decide +kernel
theorem kfull_any (m : Nat) (hm : m ≤ 16) (w : World) :
    Calls Tryz.prog 63 #[.int .i64 (m : Int)] w fun e w' => e = .returned (enc (fullN m)) ∧ w = w' := by
  have E := hid (shl_fullK hm)
  have m0 : (0 : Int) ≤ (m : Int) := by omega
  rw [← E.out]
  simp only [enc_eq]
  go_enter Tryz.func63, Tryz.ntmps63
  go_wp2_with fail
  go_ret
  exact ⟨rfl, rfl⟩





end Go.Proofs.YtcfcmalaabmceaaGreatDoor


/- The walks of keys: supers, extreme. -/
namespace Go.Proofs.YtcfcmalaabmceaaGreatDoor
open Go.RowKit

def encBq (b : Bool) : Value := .bool b
theorem infoBool : (Tryz.prog.info? 4).map (fun i => (i.zero, i.size, i.bytes)) = some (some (.bool false), 1, 1) := by kernel_rfl
theorem undBools : Tryz.prog.underlying 108 = some (.slice 4) := by kernel_rfl

/-- The row of booleans on the way. -/
def qL (N : Nat) (q : Nat → Bool) (k : Nat) : List Bool := (List.range N).map fun j => decide (j < k) && q j
theorem qL_length (N : Nat) (q : Nat → Bool) (k : Nat) : (qL N q k).length = N := by unfold qL; simp
theorem qL_zero (N : Nat) (q : Nat → Bool) : (qL N q 0).map encBq = List.replicate N (.bool false) := by
  unfold qL
  rw [List.map_map]
  apply List.ext_getElem (by simp)
  intro i h1 h2
  simp [encBq]
theorem qL_set (N : Nat) (q : Nat → Bool) (k : Nat) : ((qL N q k).map encBq).set k (.bool (q k)) = (qL N q (k + 1)).map encBq := by
  unfold qL
  apply List.ext_getElem (by simp)
  intro i h1 h2
  rw [List.getElem_set]
  simp only [List.getElem_map, List.getElem_range, encBq]
  by_cases e : k = i
  · subst e; simp
  · rw [if_neg e]
    have : decide (i < k) = decide (i < k + 1) := by rw [decide_eq_decide]; omega
    rw [this]
theorem qL_all (N : Nat) (q : Nat → Bool) {k : Nat} (h : N ≤ k) : qL N q k = (List.range N).map q := by
  unfold qL
  apply List.map_congr_left
  intro j hj
  rw [List.mem_range] at hj
  rw [decide_eq_true (by omega)]; rfl
theorem u32_ofNat (k : Nat) : IntKind.u32.wrap (k : Int) = iv (BitVec.ofNat 32 k) := by
  rw [IntKind.wrap_u32]; unfold iv; rw [BitVec.toNat_ofNat]; omega
theorem i64_wrapN {N : Nat} (h : N ≤ 65536) : IntKind.i64.wrap (N : Int) = (N : Int) := by rw [IntKind.wrap_i64]; omega
theorem i64_pow {m : Nat} (h : m ≤ 16) : IntKind.i64.wrap ((2 : Int) ^ m) = ((2 ^ m : Nat) : Int) := by
  have e : ((2 : Int) ^ m) = ((2 ^ m : Nat) : Int) := by rw [Int.natCast_pow]; rfl
  have k : 2 ^ m ≤ 2 ^ 16 := Nat.pow_le_pow_right (by omega) h
  rw [e]
  exact i64_wrapN (by omega)
noncomputable def fullB (fs : List F) (m : Nat) (s : S) : Bool := closeS fs s == fullN m

set_option maxHeartbeats 800000 in
theorem supers_any (m : Nat) (hm : m ≤ 16) (fs : List F) (v : Value) (w : World) (hv : RdF w v fs) :
    Calls Tryz.prog 42 #[.int .i64 (m : Int), v] w fun e w' => ∃ v', e = .returned v' ∧ RdE encBq w' v' ((List.range (2 ^ m)).map fun k => fullB fs m (BitVec.ofNat 32 k)) ∧ Below w.heap.size w w' := by
  have C := hid (fun (s : S) (W : World) (h : Below w.heap.size w W) => close_any fs s v W (hv.below h))
  have FU := hid (fun (W : World) => kfull_any m hm W)
  obtain ⟨ao, cap, rfl, -⟩ := hv.split
  clear hv
  have hN2 : 2 ^ m ≤ 2 ^ 16 := Nat.pow_le_pow_right (by omega) hm
  have hw := i64_pow hm
  have FB := hid (fun k => show fullB fs m (BitVec.ofNat 32 k) = (closeS fs (BitVec.ofNat 32 k) == fullN m) from rfl)
  obtain ⟨q, hq⟩ : ∃ q : Nat → Bool, (fun k => fullB fs m (BitVec.ofNat 32 k)) = q := ⟨_, rfl⟩
  have Q := hid (fun k => show q k = (closeS fs (BitVec.ofNat 32 k) == fullN m) by rw [← hq]; exact FB.out k)
  rw [hq]
  clear hq FB
  have m0 : (0 : Int) ≤ (m : Int) := by omega
  have m1 : (m : Int) ≤ 64 := by omega
  generalize fullN m = fl at *
  generalize hN : 2 ^ m = N at *
  clear hN
  obtain ⟨i0, hi, hz0, hz1, hz2⟩ := info_parts infoBool
  simp only [enc_eq] at C FU
  go_enter Tryz.func42, Tryz.ntmps42
  go_wp2_with (at_make; refine wpList_make_full _ rfl _ _ 108 rfl w.heap.size 4 i0 (.bool false) 1 undBools hi hz0 hz1 _ _ _ _ N rfl rfl (by simp) (by simp) (by rw [hz2]; omega) (by unfold maxLen; omega) (Nat.le_refl _) ?_)
  intro w1 hown hgrow
  have hb1 : Below w.heap.size w w1 := ⟨hgrow.os, hgrow.tape, hgrow.output, hgrow.size, fun k hk => hgrow.block k hk (fun e => by cases e)⟩
  have B1 := hid hb1
  have O1 := hid (show w1.ownsRow w.heap.size 4 1 (.slice (some ⟨w.heap.size, 0, none⟩) N N) N ((qL N q 0).map encBq) by
    rw [qL_zero]; first | exact hown | simpa [toList_madeCells_one, Value.cells] using hown)
  clear hown hgrow hb1 hi hz0 hz1 hz2
  go_wp2_with fail
  go_loopw [12] (fun i wr => ∃ k : Nat, k ≤ N ∧ i = .int .i64 k ∧ wr.ownsRow w.heap.size 4 1 (.slice (some ⟨w.heap.size, 0, none⟩) N N) N ((qL N q k).map encBq) ∧ Below w.heap.size w wr) (fun i _ => N - (intOf i).toNat)
  case atStart => exact ⟨0, Nat.zero_le _, rfl, O1.out, B1.out⟩
  case round =>
    obtain ⟨k, hk, rfl, hown, hnx⟩ := hrel
    by_cases hlt : k < N
    · have hcv := u32_ofNat k
      have C1 := hid (C.out (BitVec.ofNat 32 k) _ hnx)
      have Q1 := hid (Q.out k)
      have QS := hid (qL_set N q k)
      have k0 : (0 : Int) ≤ (k : Int) := by omega
      have k1 : (k : Int) < (N : Int) := by omega
      have HO := hid hown
      have HN := hid hnx
      clear hown hnx
      generalize closeS fs (BitVec.ofNat 32 k) = c at *
      generalize BitVec.ofNat 32 k = s at *
      go_wp2_with fail
      refine C1.out.mono ?_
      rintro e w3 ⟨rfl, hb3⟩
      have O3 := hid (own_below HO.out hb3)
      have N3 := hid (HN.out.trans (hb3.mono HN.out.size))
      clear hb3 HO HN
      go_wp2_with fail
      refine (FU.out _).mono ?_
      rintro e w' ⟨rfl, rfl⟩
      have hfz : w3.frozen? ⟨w.heap.size, k, none⟩ = false := O3.out.frozenAt _
      have hcell : w3.cell? ⟨w.heap.size, k, none⟩ = some (((qL N q k).map encBq).getD k (.bool false)) := by
        rw [O3.out.cellAt k (by omega)]
        have : k < ((qL N q k).map encBq).length := by rw [List.length_map, qL_length]; exact hlt
        rw [List.getD_eq_getElem?_getD, List.getElem?_eq_getElem this]; rfl
      generalize ((qL N q k).map encBq).getD k (.bool false) = old at *
      go_wp2_with fail
      have ST := O3.out.stored k (.bool (c == fl))
      rw [← Q1.out, QS.out] at ST
      rw [← Q1.out]
      go_roundw
      case rel => exact ⟨k + 1, by omega, by go_num, ST.1, N3.out.grown ST.2 N3.out.size (fun j hj => by cases hj; exact Nat.le_refl _)⟩
      case measure => simp [intOf]; omega
    · rw [qL_all N q (by omega)] at hown
      have R := hid (RdE.of_owns (f := encBq) (xs := (List.range N).map q) (by simpa using hown) (by simp; omega))
      go_wp2_with fail
      go_ret
      exact ⟨_, rfl, R.out, hnx⟩

/-! The extreme sets. -/
theorem i64_xor {x y : Nat} (hx : x < 2 ^ 20) (hy : y < 2 ^ 20) : bits .xor .i64 (x : Int) (y : Int) = ((x ^^^ y : Nat) : Int) := by
  have e : bits .xor .i64 (x : Int) (y : Int) = IntKind.i64.wrap ((BitVec.ofInt 64 (x : Int) ^^^ BitVec.ofInt 64 (y : Int)).toNat : Int) := rfl
  have h : x ^^^ y < 2 ^ 20 := Nat.xor_lt_two_pow hx hy
  have a1 : (BitVec.ofInt 64 (x : Int)).toNat = x := by rw [BitVec.ofInt_natCast, BitVec.toNat_ofNat]; exact Nat.mod_eq_of_lt (by omega)
  have a2 : (BitVec.ofInt 64 (y : Int)).toNat = y := by rw [BitVec.ofInt_natCast, BitVec.toNat_ofNat]; exact Nat.mod_eq_of_lt (by omega)
  rw [e, BitVec.toNat_xor, a1, a2, IntKind.wrap_i64]
  omega
def worseB (Q : Nat → Bool) (want : Bool) (k a : Nat) : Bool := (decide (k ^^^ 2 ^ a < k) == want) && (Q (k ^^^ 2 ^ a) == want)
def extP (Q : Nat → Bool) (want : Bool) (k : Nat) (j : Nat) : Bool := (Q k == want) && !(List.range j).any (worseB Q want k)
theorem extP_zero (Q : Nat → Bool) (want : Bool) (k : Nat) : extP Q want k 0 = (Q k == want) := by unfold extP; simp
theorem extP_next (Q : Nat → Bool) (want : Bool) (k j : Nat) : extP Q want k (j + 1) = (extP Q want k j && !worseB Q want k j) := by
  unfold extP; rw [List.range_succ, List.any_append]
  cases (Q k == want) <;> cases (List.range j).any (worseB Q want k) <;> simp
theorem extP_false {Q : Nat → Bool} {want : Bool} {k j : Nat} (h : extP Q want k j = false) : ∀ d, extP Q want k (j + d) = false := by
  intro d
  induction d with
  | zero => exact h
  | succ d ih => rw [show j + (d + 1) = (j + d) + 1 by omega, extP_next, ih]; rfl

set_option maxHeartbeats 1600000 in
theorem extreme_any (m : Nat) (hm : m ≤ 16) (Q : Nat → Bool) (want : Bool) (v : Value) (w : World) (hv : RdE encBq w v ((List.range (2 ^ m)).map Q)) :
    Calls Tryz.prog 41 #[.int .i64 (m : Int), v, .bool want] w fun e w' => ∃ v' ys, e = .returned v' ∧ w'.ownsRow w.heap.size 47 1 v' ys.length (ys.map enc) ∧ IsOrd ys (fun s => s.toNat < 2 ^ m ∧ extP Q want s.toNat m = true) ∧ ys.length ≤ 65536 ∧ Below w.heap.size w w' := by
  have AO := hid (fun (xs : List S) (u : Value) (W : World) (h : RdE enc W u xs) (hh : xs.length < 17592186044416) => aorder_any xs u W h hh)
  have hN2 : 2 ^ m ≤ 2 ^ 16 := Nat.pow_le_pow_right (by omega) hm
  have XL := hid (fun (k a : Nat) (hk : k < 2 ^ m) (ha : a < m) => show k ^^^ 2 ^ a < 2 ^ m from Nat.xor_lt_two_pow hk (Nat.pow_lt_pow_right (by omega) ha))
  have PA := hid (fun (a : Nat) (ha : a < m) => i64_pow (m := a) (by omega))
  have PX := hid (fun (k a : Nat) (hk : k < 2 ^ m) (ha : a < m) => i64_xor (x := k) (y := 2 ^ a) (by omega) (by have : 2 ^ a ≤ 2 ^ 16 := Nat.pow_le_pow_right (by omega) (by omega); omega))
  have hlen : ((List.range (2 ^ m)).map Q).length = 2 ^ m := by simp
  obtain ⟨ao, cap, rfl, -, hc⟩ := hv.split
  rw [hlen]
  have GC := hid (fun (k : Nat) (hk : k < 2 ^ m) => show ∃ b off, ao = some ⟨b, off, none⟩ ∧ ∀ wr, Below w.heap.size w wr → wr.cell? ⟨b, off + k, none⟩ = some (.bool (Q k)) by
    obtain ⟨b, off, h1, h2⟩ := hc k (Q k) (by simp [hk])
    exact ⟨b, off, h1, h2⟩)
  have WB := hid (fun k a => show worseB Q want k a = ((decide (k ^^^ 2 ^ a < k) == want) && (Q (k ^^^ 2 ^ a) == want)) from rfl)
  have E0 := hid (extP_zero Q want)
  have EN := hid (extP_next Q want)
  have EF := hid (fun (k j : Nat) (h : extP Q want k j = false) (hj : j ≤ m) => show extP Q want k m = false by have := extP_false h (m - j); rwa [show j + (m - j) = m by omega] at this)
  clear hv hc hlen
  generalize extP Q want = ex at *
  generalize worseB Q want = wb at *
  generalize hN : 2 ^ m = N at *
  have m0 : (0 : Int) ≤ (m : Int) := by omega
  clear hN
  go_enter Tryz.func41, Tryz.ntmps41
  go_wp2_with fail
  go_loopw [7, 15] (fun u i wr => ∃ (k : Nat) (xs : List S), k ≤ N ∧ i = .int .i64 k ∧ wr.ownsRow w.heap.size 47 1 u xs.length (xs.map enc) ∧ xs.length ≤ k ∧ Hid (∀ y, y ∈ xs ↔ y.toNat < k ∧ ex y.toNat m = true) ∧ Below w.heap.size w wr) (fun _ i _ => N - (intOf i).toNat)
  case atStart => exact ⟨0, [], Nat.zero_le _, rfl, World.ownsRow_nil _ _ _ _, by simp, hid (by simp), Below.refl _ _⟩
  case round =>
    obtain ⟨k, xs, hk, rfl, hown, hlen, M, hnx⟩ := hrel
    obtain ⟨wo, rfl⟩ : ∃ wo : World, wo = wr := ⟨_, rfl⟩
    have hsz := hnx.size
    by_cases hlt : k < N
    · obtain ⟨b, off, rfl, hq⟩ := GC.out k hlt
      have e0 := hq wo hnx
      have GC1 := hid (fun (j : Nat) (hj : j < N) => show wo.cell? ⟨b, off + j, none⟩ = some (.bool (Q j)) by
        obtain ⟨b', off', h1, h2⟩ := GC.out j hj
        cases h1
        exact h2 wo hnx)
      have E1 := hid (E0.out k)
      have k0 : (0 : Int) ≤ (k : Int) := by omega
      clear hq
      go_wp2_with fail
      go_loop [10, 11] (fun o i => ∃ j : Nat, j ≤ m ∧ i = .int .i64 j ∧ o = .bool (ex k j)) (fun _ i => m - (intOf i).toNat)
      case atStart => exact ⟨0, Nat.zero_le _, rfl, by rw [E1.out]⟩
      case round =>
        obtain ⟨j, hj, rfl, rfl⟩ := hrel
        cases ho : ex k j with
        | false =>
          have EM := hid (EF.out k j ho hj)
          have M2 := hid (show ∀ y, y ∈ xs ↔ y.toNat < k + 1 ∧ ex y.toNat m = true by
            intro y
            rw [M.out y]
            constructor
            · rintro ⟨h1, h2⟩; exact ⟨by omega, h2⟩
            · rintro ⟨h1, h2⟩
              refine ⟨?_, h2⟩
              by_cases e : y.toNat = k
              · rw [e, EM.out] at h2; cases h2
              · omega)
          clear ho M
          by_cases hjm : j < m
          · go_wp2_with fail
            go_roundw
            case rel => exact ⟨k + 1, xs, by omega, by go_num, hown, by omega, M2, hnx⟩
            case measure => simp [intOf]; omega
          · go_wp2_with fail
            go_roundw
            case rel => exact ⟨k + 1, xs, by omega, by go_num, hown, by omega, M2, hnx⟩
            case measure => simp [intOf]; omega
        | true =>
          by_cases hjm : j < m
          · have hw := PA.out j hjm
            have hx := PX.out k j hlt hjm
            have EN1 := hid (EN.out k j)
            have WB1 := hid (WB.out k j)
            have hxl := XL.out k j hlt hjm
            have e1 := GC1.out (k ^^^ 2 ^ j) hxl
            have j0 : (0 : Int) ≤ (j : Int) := by omega
            have j1 : (j : Int) ≤ 64 := by omega
            generalize Q (k ^^^ 2 ^ j) = qn at *
            have EV := hid (show ex k (j + 1) = (true && !((decide (k ^^^ 2 ^ j < k) == want) && (qn == want))) by rw [EN1.out, WB1.out, ho])
            generalize k ^^^ 2 ^ j = nx at *
            generalize 2 ^ j = pj at *
            have n0 : (0 : Int) ≤ (nx : Int) := by omega
            have n1 : (nx : Int) < (N : Int) := by omega
            clear ho EN1 WB1
            by_cases hnk : nx < k
            · have hnk2 : ((nx : Int) < (k : Int)) := by omega
              cases want <;> cases qn
              all_goals
                go_wp2_with fail
                go_round
                case rel => exact ⟨j + 1, by omega, by go_num, by rw [EV.out]; simp [hnk]⟩
                case measure => simp [intOf]; omega
            · have hnk2 : ¬ ((nx : Int) < (k : Int)) := by omega
              cases want <;> cases qn
              all_goals
                go_wp2_with fail
                go_round
                case rel => exact ⟨j + 1, by omega, by go_num, by rw [EV.out]; simp [hnk]⟩
                case measure => simp [intOf]; omega
          · obtain rfl : j = m := by omega
            have EM := hid ho
            have hkl : k < 4294967296 := by omega
            have M2 := hid (show ∀ y, y ∈ xs ++ [BitVec.ofNat 32 k] ↔ y.toNat < k + 1 ∧ ex y.toNat j = true by
              intro y
              rw [List.mem_append, List.mem_singleton, M.out y]
              constructor
              · rintro (⟨h1, h2⟩ | rfl)
                · exact ⟨by omega, h2⟩
                · rw [BitVec.toNat_ofNat, Nat.mod_eq_of_lt (by omega)]; exact ⟨by omega, EM.out⟩
              · rintro ⟨h1, h2⟩
                by_cases e : y.toNat = k
                · exact .inr (by rw [← e]; simp)
                · exact .inl ⟨by omega, h2⟩)
            have hcv := u32_ofNat k
            clear ho M
            go_wp2_with (at_builtin; refine wpList_push rfl _ _ 66 rfl w.heap.size 47 (.int .u32 0) 4 undSets infoSet rfl (by decide) enc (fun _ => rfl) _ xs rfl (hown.alloc _) ⟨wo.heap.size, 0, none⟩ (BitVec.ofNat 32 k) rfl cell_new (by omega) (by simp; omega) ?_)
            intro v' w1 hown' hgrow
            have hb1 := below_push hnx hsz hown hgrow
            clear hgrow hown hnx
            go_wp2_with fail
            go_roundw
            case rel => exact ⟨k + 1, xs ++ [BitVec.ofNat 32 k], by omega, by go_num, by simpa using hown', by rw [List.length_append, List.length_singleton]; omega, M2, hb1⟩
            case measure => simp [intOf]; omega
    · obtain rfl : k = N := by omega
      have R := hid (RdE.of_owns hown (by omega))
      clear hown
      go_wp2_with fail
      refine (AO.out xs _ _ R.out (by omega)).mono ?_
      rintro e w2 ⟨v2, ys, rfl, ho2, hord, hyl, hb2⟩
      have B2 := hid (hnx.trans (hb2.mono hsz))
      have O2 := hid (own_mono ho2 hsz)
      have OR := hid (hord.congr M.out)
      clear hb2 ho2 hord hnx
      go_wp2_with fail
      go_ret
      exact ⟨_, ys, rfl, O2.out, OR.out, by omega, B2.out⟩

end Go.Proofs.YtcfcmalaabmceaaGreatDoor


/- The walks of keys: All, Prime, Anti, Check. -/
namespace Go.Proofs.YtcfcmalaabmceaaGreatDoor
open Go.RowKit

theorem bit_toNat {a : Nat} (ha : a < 32) : (bit a).toNat = 2 ^ a := by
  unfold bit
  rw [BitVec.toNat_shiftLeft, Nat.shiftLeft_eq]
  have : 2 ^ a < 2 ^ 32 := Nat.pow_lt_pow_right (by omega) ha
  simp only [BitVec.toNat_ofNat]
  omega
theorem xor_has {s : S} {a : Nat} (h : s.getLsbD a = true) : s ^^^ bit a = s &&& ~~~ bit a := bv_ext fun i hi => by
  rw [BitVec.getLsbD_xor, andNot_bit s a i hi, bit_get a i hi]
  by_cases e : i = a
  · subst e; rw [h]; simp
  · simp [e]
theorem xor_lacks {s : S} {a : Nat} (h : s.getLsbD a = false) : s ^^^ bit a = s ||| bit a := bv_ext fun i hi => by
  rw [BitVec.getLsbD_xor, or_bit_get s a i hi, bit_get a i hi]
  by_cases e : i = a
  · subst e; rw [h]; simp
  · simp [e]
theorem xor_nat (s : S) {a : Nat} (ha : a < 32) : s.toNat ^^^ 2 ^ a = (s ^^^ bit a).toNat := by rw [BitVec.toNat_xor, bit_toNat ha]
theorem xor_less (s : S) {a : Nat} (ha : a < 32) : decide (s.toNat ^^^ 2 ^ a < s.toNat) = s.getLsbD a := by
  rw [xor_nat s ha]
  cases h : s.getLsbD a with
  | true => rw [xor_has h, decide_eq_true_iff]; exact sub_toNat_lt (less_subK s a) (less_ne ha h)
  | false =>
    rw [xor_lacks h, decide_eq_false_iff_not]
    have := sub_toNat (sub_or_left s (bit a)); omega
theorem sub_of_lt {m : Nat} {s : S} (h : s.toNat < 2 ^ m) : sub s (fullN m) := fun i hi hb => by
  rw [fullN_get m i hi, decide_eq_true_iff]
  apply Classical.byContradiction
  intro k
  have : s.toNat < 2 ^ i := Nat.lt_of_lt_of_le h (Nat.pow_le_pow_right (by omega) (by omega))
  have h2 := Nat.testBit_lt_two_pow this
  unfold BitVec.getLsbD at hb
  rw [h2] at hb; cases hb
theorem fullB_sup {n : Int} {fs : List F} (hv : validF n fs = 0) {s : S} (h : sub s (fullN n.toNat)) : fullB fs n.toNat s = supB n fs s := by
  unfold fullB supB
  rw [decide_eq_true hv, sub_full.1 h]; rfl
noncomputable def qK (fs : List F) (m : Nat) (k : Nat) : Bool := fullB fs m (BitVec.ofNat 32 k)
theorem qK_at (fs : List F) (m : Nat) (s : S) : qK fs m s.toNat = fullB fs m s := by unfold qK; simp
theorem worse_key {n : Int} {fs : List F} (hv : validF n fs = 0) {s : S} (hs : sub s (fullN n.toNat)) {a : Nat} (ha : a < n.toNat) (want : Bool) :
    worseB (qK fs n.toNat) want s.toNat a = ((s.getLsbD a == want) && (supB n fs (s ^^^ bit a) == want)) := by
  have h16 := (validF_w2 hv).2.1
  have ha32 : a < 32 := by omega
  unfold worseB
  rw [xor_less s ha32, xor_nat s ha32, qK_at, fullB_sup hv]
  cases h : s.getLsbD a with
  | true => rw [xor_has h]; exact sub_trans (less_subK s a) hs
  | false =>
    rw [xor_lacks h]
    refine or_sub hs fun j hj hb => ?_
    rw [bit_get a j hj, decide_eq_true_iff] at hb
    rw [hb, fullN_get _ a ha32, decide_eq_true_iff]
    exact ha
theorem ext_key {n : Int} {fs : List F} (hv : validF n fs = 0) (s : S) : (s.toNat < 2 ^ n.toNat ∧ extP (qK fs n.toNat) true s.toNat n.toNat = true) ↔ keyQ n fs s = true := by
  have h16 := (validF_w2 hv).2.1
  have hx : sub s (fullN n.toNat) → (extP (qK fs n.toNat) true s.toNat n.toNat = true ↔ keyQ n fs s = true) := fun hs => by
    unfold extP keyQ
    rw [qK_at, fullB_sup hv hs, Bool.and_eq_true, Bool.and_eq_true, Bool.not_eq_true', Bool.not_eq_true', leavesB_iff, List.any_eq_false]
    simp only [beq_true]
    refine and_congr_right fun _ => ⟨fun h i hi hb => ?_, fun h a ha => ?_⟩
    · have hin : i < n.toNat := by have := hs i hi hb; rw [fullN_get _ i hi, decide_eq_true_iff] at this; exact this
      have := h i (List.mem_range.2 hin)
      rw [worse_key hv hs hin, hb, xor_has hb] at this
      simpa using this
    · have ha := List.mem_range.1 ha
      rw [worse_key hv hs ha]
      cases hb : s.getLsbD a with
      | false => simp
      | true => rw [xor_has hb, h a (by omega) hb]; simp
  constructor
  · rintro ⟨h1, h2⟩; exact (hx (sub_of_lt h1)).1 h2
  · intro h
    have hs := supB_sub (keyQ_sup h)
    exact ⟨full_pow (by omega) hs, (hx hs).2 h⟩

/-- supers and extreme, one behind the other. -/
theorem extremeR (m : Nat) (hm : m ≤ 16) (fs : List F) (want : Bool) (v : Value) (w : World) (hv : RdE encBq w v ((List.range (2 ^ m)).map fun k => fullB fs m (BitVec.ofNat 32 k))) :
    Calls Tryz.prog 41 #[.int .i64 (m : Int), v, .bool want] w fun e w' => ∃ v' ys, e = .returned v' ∧ w'.ownsRow w.heap.size 47 1 v' ys.length (ys.map enc) ∧ IsOrd ys (fun s => s.toNat < 2 ^ m ∧ extP (qK fs m) want s.toNat m = true) ∧ ys.length ≤ 65536 ∧ Below w.heap.size w w' :=
  extreme_any m hm (qK fs m) want v w hv

theorem keysAll_any (n : Int) (fs : List F) (v : Value) (w : World) (hv : RdF w v fs) :
    Calls Tryz.prog 18 #[.int .i64 n, v] w fun e w' => ∃ v', e = .returned (.tuple #[v', .int .i64 (validF n fs)]) ∧ RdE enc w' v' (keyR n fs) ∧ (keyR n fs).length ≤ 65536 ∧ Below w.heap.size w w' := by
  have V := hid (validF_any n fs v w hv)
  by_cases hz : validF n fs = 0
  · have KR := hid (show keyR n fs = keysS n fs by unfold keyR; rw [if_pos hz])
    have KO := hid (fun (ys : List S) (h : IsOrd ys (fun s => s.toNat < 2 ^ n.toNat ∧ extP (qK fs n.toNat) true s.toNat n.toNat = true)) => show ys = keysS n fs from listB_of (h.congr (ext_key hz)))
    rw [KR.out, hz]
    rw [hz] at V
    obtain ⟨h0, h16, -, -⟩ := validF_w2 hz
    obtain ⟨m, rfl⟩ : ∃ m : Nat, n = m := ⟨n.toNat, by omega⟩
    have SU := hid (fun (W : World) (h : Below w.heap.size w W) => supers_any m (by omega) fs v W (hv.below h))
    have EX := hid (fun (u : Value) (W : World) (h : RdE encBq W u ((List.range (2 ^ m)).map fun k => fullB fs m (BitVec.ofNat 32 k))) => extremeR m (by omega) fs true u W h)
    obtain ⟨ao, cap, rfl, -⟩ := hv.split
    clear hv hz KR h0 h16
    generalize keysS (m : Int) fs = ks at *
    go_enter Tryz.func18, Tryz.ntmps18
    go_wp2_with fail
    refine V.out.mono ?_
    rintro e w1 ⟨rfl, hb1⟩
    have B1 := hid hb1
    clear hb1
    go_wp2_with fail
    refine (SU.out _ B1.out).mono ?_
    rintro e w2 ⟨v2, rfl, hr2, hb2⟩
    have R2 := hid hr2
    have B2 := hid (B1.out.trans (hb2.mono B1.out.size))
    clear hr2 hb2
    go_wp2_with fail
    refine (EX.out _ _ R2.out).mono ?_
    rintro e w3 ⟨v3, ys, rfl, ho3, hord, hyl, hb3⟩
    obtain rfl : ys = ks := KO.out ys hord
    have B3 := hid (B2.out.trans (hb3.mono B2.out.size))
    have R3 := hid (RdE.of_owns ho3 (by omega))
    have HL := hid hyl
    clear ho3 hord hyl hb3
    go_wp2_with fail
    go_ret2
    exact ⟨_, rfl, R3.out, HL.out, B3.out⟩
  · have KR := hid (show keyR n fs = [] by unfold keyR; rw [if_neg hz])
    rw [KR.out]
    obtain ⟨ao, cap, rfl, -⟩ := hv.split
    have hq : (validF n fs != 0) = true := by simpa using hz
    clear hv hz KR
    generalize validF n fs = r at *
    go_enter Tryz.func18, Tryz.ntmps18
    go_wp2_with fail
    refine V.out.mono ?_
    rintro e w1 ⟨rfl, hb1⟩
    have B1 := hid hb1
    clear hb1
    go_wp2_with fail
    go_ret2
    exact ⟨_, rfl, RdE.nil _ _, by simp, B1.out⟩



end Go.Proofs.YtcfcmalaabmceaaGreatDoor


/- What makes examples reckonable: implication by four rounds. No program. -/
namespace Go.Proofs.YtcfcmalaabmceaaGreatDoor

section
variable (imp : List F → F → Bool)
end


end Go.Proofs.YtcfcmalaabmceaaGreatDoor


/- slices.Equal of a list that is read and one that the text writes out; literals. -/
namespace Go.Proofs.YtcfcmalaabmceaaGreatDoor
open Go.RowKit

theorem lit_call {fs : List F} {m : Nat} {o : Obj} (hm : m = fs.length) (hl : fs.length ≤ 1000) (ho : o = .cells (fs.flatMap cF).toArray 49) (w : World) :
    RdF (w.alloc o) (.slice (some ⟨w.heap.size, 0, none⟩) m m) fs ∧ Below w.heap.size w (w.alloc o) := by
  subst hm ho
  exact ⟨RdC.lit cF_length w fs _ hl (by decide), below_alloc _ _⟩

end Go.Proofs.YtcfcmalaabmceaaGreatDoor


/- The walk of fdmine.Cover. -/
namespace Go.Proofs.YtcfcmalaabmceaaGreatDoor
open Go.RowKit
set_option linter.unusedVariables false



end Go.Proofs.YtcfcmalaabmceaaGreatDoor


/- Plain laws of the table that is built for a list of dependencies: no agree set of it breaks one, and every closed set is met by its irreducible ones. No program. -/
namespace Go.Proofs.YtcfcmalaabmceaaGreatDoor
open Go.RowKit
set_option linter.unusedVariables false
set_option linter.unusedSimpArgs false


/-- The rows of the table: the first one for all attributes, then one for each irreducible set. -/
def armV (n : Nat) (s : S) (k : Nat) : List V3 := (List.range n).map fun i => ((1, if s.getLsbD i then 0 else (k : Int), ByteArray.mk #[]) : V3)
def armR (n : Nat) (l : List S) : List (Int × List V3) := l.mapIdx fun k s => ((k : Int) + 1, armV n s k)



end Go.Proofs.YtcfcmalaabmceaaGreatDoor


/- Plain laws: the dependencies of a table with at most six attributes are few; what is found in the table that is built for a list. No program. -/
namespace Go.Proofs.YtcfcmalaabmceaaGreatDoor
open Go.RowKit
set_option linter.unusedVariables false
set_option linter.unusedSimpArgs false

/-! An antichain of subsets of five attributes has at most ten members: ten chains cover them all. -/


/-- The table that is built. -/
def armT (n : Nat) (rs : List Row3) : T3 := (ByteArray.mk #[116], nameN n, rs)


end Go.Proofs.YtcfcmalaabmceaaGreatDoor


/- The example of the theorems of layer 34, reckoned. No program. -/
namespace Go.Proofs.YtcfcmalaabmceaaGreatDoor
open Go.RowKit
set_option linter.unusedVariables false
set_option linter.unusedSimpArgs false


def a34F : List F := [(1#32, 2#32), (2#32, 4#32)]
theorem a34_valid : validF 3 a34F = 0 := by decide +kernel

variable {rs : List Row3} (h : rs.map (fun r => (r.1, r.2.2)) = armR 3 [7#32, 0#32, 4#32, 6#32])
include h

end Go.Proofs.YtcfcmalaabmceaaGreatDoor


/- The walks of armstrong: full, check, Irreducible. -/
namespace Go.Proofs.YtcfcmalaabmceaaGreatDoor
open Go.RowKit
set_option linter.unusedVariables false



end Go.Proofs.YtcfcmalaabmceaaGreatDoor


/- The walk of armstrong.Build. -/
namespace Go.Proofs.YtcfcmalaabmceaaGreatDoor
open Go.RowKit
set_option linter.unusedVariables false
set_option linter.unusedSimpArgs false

theorem name_next {k : Nat} (h : k < 6) : nameN (k + 1) = nameN k ++ [Utf8.encode (97 + (k : Int))] := by
  rcases (show k = 0 ∨ k = 1 ∨ k = 2 ∨ k = 3 ∨ k = 4 ∨ k = 5 by omega) with rfl | rfl | rfl | rfl | rfl | rfl <;> rfl
theorem RdE.grown {α : Type} {f : α → Value} {w w' : World} {v : Value} {xs : List α} {o : Option Nat} (h : RdE f w v xs) (hg : w.grownBy w' o) (hf : FarV v o) : RdE f w' v xs := by
  obtain ⟨ao, cap, rfl, h1, h2, h3⟩ := h
  refine ⟨ao, cap, rfl, h1, h2, fun hp => ?_⟩
  obtain ⟨b, off, rfl, hlt, hc⟩ := h3 hp
  refine ⟨b, off, rfl, Nat.lt_of_lt_of_le hlt hg.size, fun j x hx => ?_⟩
  exact (World.cell?_of_block (a := ⟨b, off + j, none⟩) (hg.block b hlt (fun e => hf _ _ _ rfl hp e.symm))).trans (hc j x hx)
theorem RdE.blk {α : Type} {f : α → Value} {w : World} {v : Value} {xs : List α} (h : RdE f w v xs) {j : Nat} (hj : w.heap.size ≤ j) : FarV v (some j) := by
  obtain ⟨ao, cap, rfl, -, -, h3⟩ := h
  intro a len cap' e1 hl e2
  cases e1
  obtain ⟨b, off, e4, hlt, -⟩ := h3 hl
  cases e4; simp at e2; omega
theorem RdC.blk {α : Type} {c : α → List Value} {w : World} {v : Value} {xs : List α} (h : RdC c w v xs) {j : Nat} (hj : w.heap.size ≤ j) : FarV v (some j) := by
  obtain ⟨ao, cap, rfl, -, -, h3⟩ := h
  intro a len cap' e1 hl e2
  cases e1
  obtain ⟨b, off, e4, hlt, -⟩ := h3 hl
  cases e4; simp at e2; omega

theorem flat_one {α : Type} (f : α → Value) (xs : List α) : xs.flatMap (fun x => [f x]) = xs.map f := by
  induction xs with
  | nil => rfl
  | cons x xs ih => rw [List.flatMap_cons, ih]; rfl
def cT (s : ByteArray) : List Value := [encT s]
theorem cT_one : ∀ y, ∀ u ∈ cT y, u.oneCell' = true := by intro y u hu; simp [cT] at hu; rw [hu]; rfl
theorem cells_newT (w : World) (x : ByteArray) {t : TypeId} : ∀ j u, (cT x)[j]? = some u → (w.alloc (.cells #[.string x] t)).cell? (Addr.add ⟨w.heap.size, 0, none⟩ j) = some u := by
  intro j u hj
  have hj2 : j < 1 := (List.getElem?_eq_some_iff.1 hj).1
  obtain rfl : j = 0 := by omega
  simp [cT, encT] at hj; subst hj; simp [Addr.add]
theorem i32_small {k : Nat} (h : k < 6) : IntKind.i32.wrap (97 + (k : Int)) = 97 + (k : Int) := by
  rcases (show k = 0 ∨ k = 1 ∨ k = 2 ∨ k = 3 ∨ k = 4 ∨ k = 5 by omega) with rfl | rfl | rfl | rfl | rfl | rfl <;> decide

/-- What the second loop keeps: the names and the sets, which lie in no block that it writes. -/
def Kp (av u : Value) (ats : List ByteArray) (sl : List S) (tb : Nat) (o : Option Nat) (W : World) : Prop := RdE encT W av ats ∧ RdE enc W u sl ∧ FarV av (some tb) ∧ FarV u (some tb) ∧ FarV av o ∧ FarV u o
theorem Kp.below {av u : Value} {ats : List ByteArray} {sl : List S} {tb : Nat} {o : Option Nat} {W W' : World} (h : Kp av u ats sl tb o W) (hb : Below W.heap.size W W') : Kp av u ats sl tb o W' := ⟨h.1.below hb, h.2.1.below hb, h.2.2⟩
theorem Kp.grown {av u : Value} {ats : List ByteArray} {sl : List S} {tb : Nat} {o o' : Option Nat} {W W' : World} (h : Kp av u ats sl tb o W) (hg : W.grownBy W' o) (ho : o' = o ∨ o' = some W.heap.size) : Kp av u ats sl tb o' W' := by
  obtain ⟨h1, h2, h3, h4, h5, h6⟩ := h
  refine ⟨h1.grown hg h5, h2.grown hg h6, h3, h4, ?_, ?_⟩
  · rcases ho with e | e
    · rw [e]; exact h5
    · rw [e]; exact h1.blk (Nat.le_refl _)
  · rcases ho with e | e
    · rw [e]; exact h6
    · rw [e]; exact h2.blk (Nat.le_refl _)
theorem Kp.set {av u x : Value} {ats : List ByteArray} {sl : List S} {tb i : Nat} {o : Option Nat} {W : World} (h : Kp av u ats sl tb o W) : Kp av u ats sl tb o (W.setCell ⟨tb, i, none⟩ x) :=
  ⟨RdE.setFar (p := ⟨tb, i, none⟩) h.1 h.2.2.1, RdE.setFar (p := ⟨tb, i, none⟩) h.2.1 h.2.2.2.1, h.2.2⟩


end Go.Proofs.YtcfcmalaabmceaaGreatDoor


/- The walks of third.full and third.Synthesize. -/
namespace Go.Proofs.YtcfcmalaabmceaaGreatDoor
open Go.RowKit
set_option linter.unusedVariables false



end Go.Proofs.YtcfcmalaabmceaaGreatDoor


/- The walk of awake34: the example of the theorems of layer 34 holds. -/
namespace Go.Proofs.YtcfcmalaabmceaaGreatDoor
open Go.RowKit
set_option linter.unusedVariables false



end Go.Proofs.YtcfcmalaabmceaaGreatDoor

