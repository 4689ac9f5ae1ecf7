/- Texts that belong together, in one file. -/
import Derived.Test.YtgahpgmagfngfaaGreatDoorGKm1
import Derived.Test.YtgahpgmagfngfaaGreatDoorGTab27
import Derived.Test.YtgahpgmagfngfaaGreatDoorGTab14
import Derived.Test.YtgahpgmagfngfaaGreatDoorGOrd
import Derived.Test.YtgahpgmagfngfaaGreatDoorGTab20
import Derived.Test.YtgahpgmagfngfaaGreatDoorGWalk
import Derived.Test.YtgahpgmagfngfaaGreatDoorCells
import Derived.Test.YtgahpgmagfngfaaGreatDoorGTab30
import Derived.Test.YtgahpgmagfngfaaGreatDoorAfter
/- The walks of the reference of chapter 29: All, Witnesses. -/
namespace Go.Proofs.YtgahpgmagfngfaaGreatDoor
open Go.RowKit
set_option linter.unusedVariables false

theorem sub_full_lt {s : S} {m : Nat} : sub s (fullN m) ↔ s.toNat < 2 ^ m := by
  rw [sub_full]
  constructor
  · intro h
    have := congrArg BitVec.toNat h
    rw [BitVec.toNat_ushiftRight, Nat.shiftRight_eq_div_pow] at this
    exact (Nat.div_eq_zero_iff_lt (Nat.two_pow_pos m)).1 this
  · intro h
    apply BitVec.eq_of_toNat_eq
    rw [BitVec.toNat_ushiftRight, Nat.shiftRight_eq_div_pow]
    exact Nat.div_eq_of_lt h



end Go.Proofs.YtgahpgmagfngfaaGreatDoor


/- Plain laws of the keys of rows: the bytes of the values at a set, and the groups by them. No program. -/
namespace Go.Proofs.YtgahpgmagfngfaaGreatDoor
open Go.RowKit
set_option linter.unusedVariables false

section
variable {κ : Type} [DecidableEq κ]
def hasK (ks : List κ) (k : κ) : Bool := decide (k ∈ ks)
theorem hasK_in {ks : List κ} {k : κ} (h : k ∈ ks) : hasK ks k = true := decide_eq_true h
theorem hasK_out {ks : List κ} {k : κ} (h : k ∉ ks) : hasK ks k = false := decide_eq_false h
theorem hasK_snoc (ks : List κ) (k s : κ) : hasK (ks ++ [k]) s = if s = k then true else hasK ks s := by
  by_cases e : s = k
  · rw [if_pos e, hasK_in (by simp [e])]
  · rw [if_neg e]
    unfold hasK
    rw [decide_eq_decide]
    simp [e]
end
def strB (l : List UInt8) : ByteArray := ⟨l.toArray⟩
theorem strB_size (l : List UInt8) : (strB l).size = l.length := by unfold strB; simp [ByteArray.size]
theorem strB_append (a b : List UInt8) : strB a ++ strB b = strB (a ++ b) := by
  apply ByteArray.ext
  simp [strB, ByteArray.data_append]
theorem strB_inj {a b : List UInt8} (h : strB a = strB b) : a = b := by
  have := congrArg (fun x => x.data.toList) h
  simpa [strB] using this
def mkKS (l : List UInt8) : KS := if h : l.length ≤ maxLen then ⟨strB l, by rw [strB_size]; exact h⟩ else ⟨ByteArray.mk #[], Nat.zero_le _⟩
theorem mkKS_val {l : List UInt8} (h : l.length ≤ maxLen) : (mkKS l).1 = strB l := by unfold mkKS; rw [dif_pos h]
theorem mkKS_inj {a b : List UInt8} (ha : a.length ≤ maxLen) (hb : b.length ≤ maxLen) (h : mkKS a = mkKS b) : a = b := by
  have := congrArg Subtype.val h
  rw [mkKS_val ha, mkKS_val hb] at this
  exact strB_inj this
/-- The key as the program makes it: the values at the members, one behind the other. -/
def kyB (xs : List V3) (ms : List Nat) : List UInt8 := keysB (ms.map fun a => xs.getD a noV)
theorem kyB_next {xs : List V3} {ms : List Nat} {j a : Nat} {x : V3} (h : ms[j]? = some a) (hx : xs[a]? = some x) : kyB xs (ms.take (j + 1)) = kyB xs (ms.take j) ++ keyB x := by
  unfold kyB keysB
  rw [take_next h, List.map_append, List.flatMap_append]
  simp [List.getD, hx]
theorem keysB_length {xs : List V3} (h : ∀ x ∈ xs, validV x = true) : (keysB xs).length ≤ 403 * xs.length := by
  unfold keysB
  induction xs with
  | nil => simp
  | cons x xs ih =>
    have h1 := keyB_length x (h x (by simp))
    have h2 := ih (fun y hy => h y (by simp [hy]))
    rw [List.flatMap_cons, List.length_append, List.length_cons]
    omega
theorem memN_map (xs : List V3) (s : S) (m : Nat) : (memN s m).map (fun a => xs.getD a noV) = valTo xs s m := by
  induction m with
  | zero => rfl
  | succ m ih =>
    unfold valTo
    cases hb : s.getLsbD m with
    | true => rw [memN_yes hb, List.map_append, ih, if_pos rfl]; rfl
    | false => rw [memN_no hb, ih, if_neg (by simp)]
theorem memN_cut {s : S} {m : Nat} (h : ∀ i, m ≤ i → s.getLsbD i = false) : ∀ k, m ≤ k → memN s k = memN s m := by
  intro k hk
  induction k with
  | zero => rw [Nat.le_zero.1 hk]
  | succ k ih =>
    by_cases e : m = k + 1
    · rw [e]
    · rw [memN_no (h k (by omega)), ih (by omega)]
theorem sub_full_bits {s : S} {m : Nat} (hm : m ≤ 32) (h : sub s (fullN m)) : ∀ i, m ≤ i → s.getLsbD i = false := by
  intro i hi
  cases hb : s.getLsbD i with
  | false => rfl
  | true =>
    have hl := sub_full_lt.1 h
    have : 2 ^ i ≤ s.toNat := by
      rw [← BitVec.testBit_toNat] at hb
      exact Nat.ge_two_pow_of_testBit hb
    have h2 : 2 ^ m ≤ 2 ^ i := Nat.pow_le_pow_right (by decide) hi
    omega
theorem kyB_val {xs : List V3} {s : S} (h : ∀ i, xs.length ≤ i → s.getLsbD i = false) (h32 : xs.length ≤ 32) : kyB xs (memN s 32) = keysB (valTo xs s xs.length) := by
  unfold kyB
  rw [memN_cut h 32 h32, memN_map]
theorem valTo_mem {xs : List V3} {s : S} {m : Nat} (hm : m ≤ xs.length) {x : V3} (h : x ∈ valTo xs s m) : x ∈ xs := by
  rw [← memN_map] at h
  obtain ⟨a, ha, rfl⟩ := List.mem_map.1 h
  have h1 := (mem_memN.1 ha).1
  have h2 : a < xs.length := by omega
  show xs.getD a noV ∈ xs
  rw [List.getD, List.getElem?_eq_getElem h2]
  exact List.getElem_mem _
theorem kyB_length {xs : List V3} {ms : List Nat} (h : ∀ x ∈ xs, validV x = true) (hm : ∀ a ∈ ms, a < xs.length) (hl : ms.length ≤ 32) : (kyB xs ms).length ≤ 12896 := by
  have := keysB_length (xs := ms.map fun a => xs.getD a noV) (fun x hx => by
    obtain ⟨a, ha, rfl⟩ := List.mem_map.1 hx
    have h2 := hm a ha
    apply h
    show xs.getD a noV ∈ xs
    rw [List.getD, List.getElem?_eq_getElem h2]
    exact List.getElem_mem _)
  rw [List.length_map] at this
  unfold kyB
  omega
theorem mem_lt {xs : List V3} {s : S} (h : ∀ i, xs.length ≤ i → s.getLsbD i = false) : ∀ a ∈ memN s 32, a < xs.length := by
  intro a ha
  have h1 := (mem_memN.1 ha).2
  by_cases hlt : a < xs.length
  · exact hlt
  · rw [h a (by omega)] at h1; cases h1

end Go.Proofs.YtgahpgmagfngfaaGreatDoor


/- The walks of slices.IndexFunc and slices.DeleteFunc over groups of the call's own, at keymine's test. -/
namespace Go.Proofs.YtgahpgmagfngfaaGreatDoor
open Go.RowKit
set_option linter.unusedVariables false

theorem own_sliceG {w : World} {B n : Nat} {e : TypeId} {v : Value} {xs : List Value} (h : w.ownsRow B e 1 v n xs) : ∃ ao cap, v = .slice ao n cap := by
  rcases h.2 with ⟨h1, h2⟩ | ⟨g', cap', cur, hv, _⟩
  · exact ⟨none, 0, by rw [h1, h2]⟩
  · exact ⟨_, cap', hv⟩
theorem undG64 : Tryz.prog.underlying 70 = some (.slice 2) := by kernel_rfl
theorem info64 : (Tryz.prog.info? 2).map (fun i => (i.zero, i.size, i.bytes)) = some (some (.int .i64 0), 1, 8) := by kernel_rfl
def smallG (g : Gp) : Bool := decide ((g.2.length : Int) < 2)
def bigs (gs : List Gp) : List Gp := gs.filter fun g => !smallG g
theorem none_nextG {xs : List Gp} {k : Nat} {x : Gp} (hx : xs[k]? = some x) (hp : smallG x = false) (h : (xs.take k).any smallG = false) : (xs.take (k + 1)).any smallG = false := by
  rw [take_next hx, List.any_append, h]; simp [hp]

/-- The row while DeleteFunc is at its work. -/
structure DelR (xs : List Gp) (i j : Nat) (dk : List Gp) : Prop where
  size : dk.length = xs.length
  lt : i < j
  low : dk.take i = (xs.take j).filter (fun x => !smallG x)
  high : ∀ t, j ≤ t → dk[t]? = xs[t]?
theorem none_filterG {xs : List Gp} (h : xs.any smallG = false) : xs.filter (fun x => !smallG x) = xs := by
  rw [List.filter_eq_self]
  intro x hx
  rw [List.any_eq_false] at h
  simp [h x hx]
theorem DelR.start {xs : List Gp} {k : Nat} {x : Gp} (hx : xs[k]? = some x) (h : (xs.take k).any smallG = false) (hp : smallG x = true) : DelR xs k (k + 1) xs :=
  ⟨rfl, by omega, by rw [take_next hx, List.filter_append, none_filterG h]; simp [hp], fun _ _ => rfl⟩
theorem DelR.keep {xs dk : List Gp} {i j : Nat} {x : Gp} (h : DelR xs i j dk) (hx : xs[j]? = some x) (hp : smallG x = false) : DelR xs (i + 1) (j + 1) (dk.set i x) := by
  have hj := (List.getElem?_eq_some_iff.1 hx).1
  have hi : i < dk.length := by have := h.size; have := h.lt; omega
  refine ⟨by rw [List.length_set]; exact h.size, by have := h.lt; omega, ?_, fun t ht => ?_⟩
  · rw [take_next hx, List.filter_append, ← h.low, take_next (x := x) (by rw [List.getElem?_set_self hi]), List.take_set_of_le (Nat.le_refl _)]
    simp [hp]
  · rw [List.getElem?_set_ne (by have := h.lt; omega)]
    exact h.high t (by omega)
theorem DelR.skip {xs dk : List Gp} {i j : Nat} {x : Gp} (h : DelR xs i j dk) (hx : xs[j]? = some x) (hp : smallG x = true) : DelR xs i (j + 1) dk :=
  ⟨h.size, by have := h.lt; omega, by rw [take_next hx, List.filter_append, ← h.low]; simp [hp], fun t ht => h.high t (by omega)⟩
theorem own_setCells_other {w : World} {B g : Nat} {e : TypeId} {n : Nat} {u : Value} {ys : List Value} (hne : u.ownBlock ≠ some g) : ∀ (vs : List Value) (o : Nat) (w : World), w.ownsRow B e 1 u n ys → (w.setCells g o vs).ownsRow B e 1 u n ys := by
  intro vs
  induction vs with
  | nil => intro o w h; exact h
  | cons x vs ih => intro o w h; exact ih (o + 1) _ (ownsRow_setCell_other h hne _)


end Go.Proofs.YtgahpgmagfngfaaGreatDoor


/- The walks of value.number and value.Key. -/
namespace Go.Proofs.YtgahpgmagfngfaaGreatDoor
open Go.RowKit
set_option linter.unusedVariables false

def encB (b : UInt8) : Value := .int .u8 (b.toNat : Int)
theorem infoByte : (Tryz.prog.info? 5).map (fun i => (i.zero, i.size, i.bytes)) = some (some (.int .u8 0), 1, 1) := by kernel_rfl
theorem undBytes : Tryz.prog.underlying 24 = some (.slice 5) := by kernel_rfl
theorem xor_top {b : Nat} (h : b < 2 ^ 63) : b ^^^ 2 ^ 63 = b + 2 ^ 63 := by
  apply Nat.eq_of_testBit_eq
  intro i
  rw [Nat.testBit_xor, Nat.testBit_two_pow, Nat.add_comm b]
  rcases Nat.lt_trichotomy i 63 with hlt | rfl | hgt
  · rw [Nat.testBit_two_pow_add_gt hlt]
    simp [show ¬ 63 = i by omega]
  · rw [Nat.testBit_two_pow_add_eq]; simp
  · have h1 : b.testBit i = false := Nat.testBit_lt_two_pow (Nat.lt_of_lt_of_le h (Nat.pow_le_pow_right (by decide) (by omega)))
    have h2 : (2 ^ 63 + b).testBit i = false := Nat.testBit_lt_two_pow (Nat.lt_of_lt_of_le (show 2 ^ 63 + b < 2 ^ 64 by omega) (Nat.pow_le_pow_right (by decide) (by omega)))
    rw [h1, h2]; simp [show ¬ 63 = i by omega]
theorem key_bits {n : Int} (h0 : -9223372036854775808 ≤ n) (h1 : n < 9223372036854775808) : bits .xor .u64 (IntKind.u64.wrap n) 9223372036854775808 = (numU n : Int) := by
  show IntKind.u64.wrap ((BitVec.ofInt 64 (IntKind.u64.wrap n) ^^^ BitVec.ofInt 64 9223372036854775808).toNat : Int) = _
  rw [BitVec.toNat_xor]
  have e2 : (BitVec.ofInt 64 9223372036854775808).toNat = 2 ^ 63 := by decide
  rw [e2]
  by_cases hn : 0 ≤ n
  · have e1 : (BitVec.ofInt 64 (IntKind.u64.wrap n)).toNat = n.toNat := by
      rw [IntKind.wrap_u64, BitVec.toNat_ofInt]; omega
    rw [e1, xor_top (by omega)]
    unfold numU
    rw [IntKind.wrap_u64]; omega
  · have e1 : (BitVec.ofInt 64 (IntKind.u64.wrap n)).toNat = (n + 9223372036854775808).toNat + 2 ^ 63 := by
      rw [IntKind.wrap_u64, BitVec.toNat_ofInt]; omega
    rw [e1, ← xor_top (by omega), Nat.xor_assoc, Nat.xor_self, Nat.xor_zero]
    unfold numU
    rw [IntKind.wrap_u64]; omega
theorem numB_take (n : Int) : ∀ m, m < 8 → (numB n).take (m + 1) = (numB n).take m ++ [byteU (numU n) (7 - m)] := by
  intro m hm
  rcases (show m = 0 ∨ m = 1 ∨ m = 2 ∨ m = 3 ∨ m = 4 ∨ m = 5 ∨ m = 6 ∨ m = 7 by omega) with rfl | rfl | rfl | rfl | rfl | rfl | rfl | rfl <;> rfl

set_option maxHeartbeats 1600000 in
set_option maxRecDepth 100000 in
theorem number_any (n : Int) (h0 : -9223372036854775808 ≤ n) (h1 : n < 9223372036854775808) (out : List UInt8) (v : Value) (B : Nat) (w : World) (hown : w.ownsRow B 5 1 v out.length (out.map encB)) (hB : B ≤ w.heap.size) (hl : out.length ≤ 1000) :
    Calls Tryz.prog 124 #[v, .int .i64 n] w fun e w' => ∃ v', e = .returned v' ∧ w'.ownsRow B 5 1 v' (out ++ numB n).length ((out ++ numB n).map encB) ∧ Below B w w' := by
  have KB := hid (key_bits h0 h1)
  have NT := hid (numB_take n)
  have U64 := hid (show numU n < 18446744073709551616 by unfold numU; omega)
  have NL := hid (show (numB n).length = 8 from rfl)
  generalize numB n = nb at *
  generalize numU n = U at *
  obtain ⟨vo, vcap, hv⟩ : ∃ vo vcap, v = .slice vo out.length vcap := by
    rcases hown.2 with ⟨e, h⟩ | ⟨g, cap, cur, e, _⟩
    · exact ⟨none, 0, by rw [e, h]⟩
    · exact ⟨_, cap, e⟩
  subst hv
  have OW0 := hid hown
  clear hown
  go_enter Tryz.func124, Tryz.ntmps124
  go_wp2_with fail
  rw [KB.out]
  go_loopw [0, 6] (fun u s wr => ∃ m : Nat, m ≤ 8 ∧ s = .int .i64 (56 - 8 * (m : Int)) ∧ wr.ownsRow B 5 1 u (out ++ nb.take m).length ((out ++ nb.take m).map encB) ∧ Below B w wr) (fun _ s _ => (intOf s + 8).toNat)
  case atStart => exact ⟨0, by omega, rfl, by simpa using OW0.out, Below.refl _ _⟩
  case round =>
    obtain ⟨m, hm, rfl, hown, hnx⟩ := hrel
    have hsz := hnx.size
    have hol : (out ++ nb.take m).length ≤ 1008 := by rw [List.length_append, List.length_take, NL.out]; omega
    have HOL := hid hol
    have OW := hid hown
    have NX := hid hnx
    clear hol hown hnx
    by_cases h8 : m = 8
    · subst h8
      have e8 : (56 : Int) - 8 * ((8 : Nat) : Int) = -8 := by omega
      rw [e8]
      have OF := hid (show wr.ownsRow B 5 1 u0 (out ++ nb).length ((out ++ nb).map encB) by have h := OW.out; rwa [List.take_of_length_le (by rw [NL.out]; exact Nat.le_refl _)] at h)
      go_wp2_with fail
      go_ret
      exact ⟨_, rfl, OF.out, NX.out⟩
    · have TK := hid (NT.out m (by omega))
      have e8 : (56 : Int) - 8 * (m : Int) = ((56 - 8 * m : Nat) : Int) := by omega
      have e9 : ((56 - 8 * m : Nat) : Int) - 8 = 56 - 8 * ((m + 1 : Nat) : Int) := by omega
      have s0 : (0 : Int) ≤ ((56 - 8 * m : Nat) : Int) := by omega
      rw [e8]
      have HTK := hid (show out ++ nb.take (m + 1) = (out ++ nb.take m) ++ [byteU U (7 - m)] by rw [TK.out, List.append_assoc])
      have hb : (U : Int) / 2 ^ (56 - 8 * m) % 256 = ((byteU U (7 - m)).toNat : Int) := by
        rw [byteU_nat, show 56 - 8 * m = 8 * (7 - m) by omega, Int.pow_mul]
        simp
      have HBY := hid hb
      have m7 : m ≤ 7 := by omega
      clear hb
      generalize out ++ nb.take m = cur at *
      go_wp2_with (at_builtin; refine wpList_pushE rfl _ _ 24 rfl B 5 (.int .u8 0) 1 undBytes infoByte rfl (by decide) encB _ cur rfl (OW.out.alloc _) ⟨wr.heap.size, 0, none⟩ (byteU U (7 - m)) rfl rfl ?_ (by have := HOL.out; omega) (by simp; omega) ?_)
      · rw [HBY.out]; exact cell_new
      · intro v' w1 hown' hgrow _
        have hb1 := below_push NX.out (Nat.le_trans hB hsz) OW.out hgrow
        have ho1 : w1.ownsRow B 5 1 v' (out ++ nb.take (m + 1)).length ((out ++ nb.take (m + 1)).map encB) := by rw [HTK.out]; simpa using hown'
        have HO1 := hid ho1
        have HB1 := hid hb1
        clear ho1 hb1 hown' hgrow
        go_wp2_with fail
        go_roundw
        case rel => exact ⟨m + 1, by omega, by go_num, HO1.out, HB1.out⟩
        case measure => simp [intOf]; omega

theorem chsB_snoc (s : List UInt8) (c : UInt8) : chsB (s ++ [c]) = chsB s ++ chB c := by unfold chsB; rw [List.flatMap_append]; simp
theorem chsB_length (s : List UInt8) : (chsB s).length ≤ 2 * s.length := by
  induction s with
  | nil => simp [chsB]
  | cons c s ih =>
    rw [chsB_cons, List.length_append, List.length_cons]
    have : (chB c).length ≤ 2 := by unfold chB; split <;> simp
    omega
theorem lit1 (w : World) (b : UInt8) : (w.alloc (.cells #[encB b] 5)).ownsRow w.heap.size 5 1 (.slice (some ⟨w.heap.size, 0, none⟩) 1 1) [b].length ([b].map encB) :=
  World.ownsRow_lit w _ 1 (Nat.le_refl _) (by decide) rfl

theorem own_formK {w : World} {B : Nat} {e : TypeId} {size n : Nat} {v : Value} {xs : List Value} (h : w.ownsRow B e size v n xs) (hn : 0 < n) : ∃ g cap, v = .slice (some ⟨g, 0, none⟩) n cap := by
  rcases h.2 with ⟨_, h0⟩ | ⟨g, cap, cur, rfl, _⟩
  · omega
  · exact ⟨g, cap, rfl⟩
theorem conv_any {w : World} {B g cap : Nat} {l : List UInt8} (h : w.ownsRow B 5 1 (.slice (some ⟨g, 0, none⟩) l.length cap) l.length (l.map encB)) :
    (convert 24 9 (.slice (some ⟨g, 0, none⟩) l.length cap)).run Tryz.prog w = .ok (.string ⟨l.toArray⟩) w := by
  refine run_convert_bytes_back w 24 9 5 ⟨g, 0, none⟩ cap l undBytes Tryz.underlying5 Tryz.underlying9 fun j hj => ?_
  have := h.cellAt j (by omega)
  rw [Addr.add_lit, Nat.zero_add, this, List.getElem?_map, List.getElem?_eq_getElem hj]; rfl
set_option maxHeartbeats 3200000 in
set_option maxRecDepth 100000 in
theorem key_any (x : V3) (hx : okV x) (w : World) :
    Calls Tryz.prog 81 #[.agg #[.int .i64 x.1, .int .i64 x.2.1, .string x.2.2]] w fun e w' => e = .returned (.tuple #[.string ⟨(keyB x).toArray⟩, .int .i64 0]) ∧ Below w.heap.size w w' := by
  obtain ⟨hv, hr0, hr1⟩ := hx
  have hk := valid_kind hv
  have KB := hid (show keyB x = UInt8.ofNat x.1.toNat :: (if x.1 = 1 ∨ x.1 = 3 then numB x.2.1 else if x.1 = 2 then txtB x.2.2.toList else []) from rfl)
  have VA := hid (fun (W : World) => value_valid x W)
  rw [hv] at VA
  have NU := hid (fun (out : List UInt8) (v : Value) (B : Nat) (W : World) (ho : W.ownsRow B 5 1 v out.length (out.map encB)) (hB : B ≤ W.heap.size) (hl : out.length ≤ 1000) => number_any x.2.1 hr0 hr1 out v B W ho hB hl)
  obtain ⟨R, hR⟩ : ∃ R, keyB x = R := ⟨_, rfl⟩
  rw [hR]
  rw [hR] at KB
  clear hR
  obtain ⟨kd, nm, st⟩ := x
  simp only at hk KB VA NU
  have hb0 := below_alloc w (.cells #[.int .i64 kd, .int .i64 nm, .string st] 89)
  have C3 := hid (fun W h => cells3 (w := w) (a := .int .i64 kd) (b := .int .i64 nm) (c := .string st) (t := 89) W h)
  obtain ⟨w0, hw0⟩ : ∃ w0 : World, w.alloc (.cells #[.int .i64 kd, .int .i64 nm, .string st] 89) = w0 := ⟨_, rfl⟩
  rw [hw0] at hb0 C3
  have B0 := hid hb0
  have W0 := hid hw0
  have hsz0 := hb0.size
  obtain ⟨t00, t01, t02⟩ := C3.out _ (Below.refl _ _)
  have D0 := hid (Below.refl w0.heap.size w0)
  clear hb0 hw0 hv hr0 hr1
  rcases hk with ⟨rfl, rfl, k3⟩ | ⟨rfl, k3⟩ | ⟨rfl, rfl, k3⟩ | ⟨rfl, k3⟩
  · rw [if_neg (by decide), if_neg (by decide)] at KB
    clear NU
    go_enter Tryz.func81, Tryz.ntmps81
    go_wp2_with fail
    rw [W0.out]
    go_wp2_with fail
    refine (VA.out _).mono ?_
    rintro e w1 ⟨rfl, hb1⟩
    have D1 := hid hb1
    obtain ⟨t10, t11, t12⟩ := C3.out _ hb1
    have LT := hid (show (w1.alloc (.cells #[.int .u8 0] 5)).ownsRow w1.heap.size 5 1 (.slice (some ⟨w1.heap.size, 0, none⟩) 1 1) [UInt8.ofNat 0].length ([UInt8.ofNat 0].map encB) from lit1 w1 (UInt8.ofNat 0))
    have n1 := below_alloc w1 (.cells #[.int .u8 0] 5)
    obtain ⟨y0, y1, y2⟩ := C3.out _ (D1.out.trans (n1.mono D1.out.size))
    have CV := conv_any LT.out
    have BF := hid (B0.out.trans ((D1.out.trans (n1.mono D1.out.size)).mono hsz0))
    have KE := hid (show R = [UInt8.ofNat 0] from KB.out)
    simp only [List.length_singleton] at CV
    clear hb1 n1
    go_wp2_with fail
    go_ret2
    exact ⟨by rw [KE.out]; rfl, BF.out⟩
  · rw [if_pos (by decide)] at KB
    go_enter Tryz.func81, Tryz.ntmps81
    go_wp2_with fail
    rw [W0.out]
    go_wp2_with fail
    refine (VA.out _).mono ?_
    rintro e w1 ⟨rfl, hb1⟩
    have D1 := hid hb1
    obtain ⟨t10, t11, t12⟩ := C3.out _ hb1
    have LT := hid (show (w1.alloc (.cells #[.int .u8 1] 5)).ownsRow w1.heap.size 5 1 (.slice (some ⟨w1.heap.size, 0, none⟩) 1 1) [UInt8.ofNat 1].length ([UInt8.ofNat 1].map encB) from lit1 w1 (UInt8.ofNat 1))
    have n1 := below_alloc w1 (.cells #[.int .u8 1] 5)
    obtain ⟨y0, y1, y2⟩ := C3.out _ (D1.out.trans (n1.mono D1.out.size))
    have D2 := hid (D1.out.trans (n1.mono D1.out.size))
    have hs1 : w1.heap.size ≤ (w1.alloc (.cells #[.int .u8 1] 5)).heap.size := n1.size
    have NC := hid (NU.out [UInt8.ofNat 1] _ w1.heap.size _ LT.out hs1 (by simp))
    have HS1 := hid hs1
    clear hb1 n1 hs1
    go_wp2_with fail
    refine NC.out.mono ?_
    rintro e w2 ⟨v2, rfl, ho2, hb2⟩
    obtain ⟨g, cap, hv2⟩ := own_formK ho2 (by simp)
    subst hv2
    have CV := conv_any ho2
    have BF := hid (B0.out.trans ((D1.out.trans ((((Below.refl _ w1).alloc (Nat.le_refl _) _).trans hb2).mono D1.out.size)).mono hsz0))
    have KE := hid (show R = [UInt8.ofNat 1] ++ numB nm by rw [KB.out]; rfl)
    rw [← KE.out] at CV ⊢
    clear ho2 hb2
    go_wp2_with fail
    go_ret2
    exact ⟨rfl, BF.out⟩
  · rw [if_neg (by decide), if_pos rfl] at KB
    clear NU
    have KE := hid (show R = ([UInt8.ofNat 2] ++ chsB st.toList) ++ [0, 1] by rw [KB.out]; rfl)
    have hst : st.toList.length = st.size := by rw [ByteArray.toList_eq]; simp
    have HST := hid hst
    have GET := hid (fun (k : Nat) (h : k < st.size) => show st.toList[k]? = some (st[k]'h) by rw [ByteArray.toList_eq, Array.getElem?_toList]; exact Array.getElem?_eq_getElem h)
    clear hst KB
    go_enter Tryz.func81, Tryz.ntmps81
    go_wp2_with fail
    rw [W0.out]
    go_wp2_with fail
    refine (VA.out _).mono ?_
    rintro e w1 ⟨rfl, hb1⟩
    have D1 := hid hb1
    obtain ⟨t10, t11, t12⟩ := C3.out _ hb1
    have LT := hid (show (w1.alloc (.cells #[.int .u8 2] 5)).ownsRow w1.heap.size 5 1 (.slice (some ⟨w1.heap.size, 0, none⟩) 1 1) [UInt8.ofNat 2].length ([UInt8.ofNat 2].map encB) from lit1 w1 (UInt8.ofNat 2))
    have n1 := below_alloc w1 (.cells #[.int .u8 2] 5)
    obtain ⟨y0, y1, y2⟩ := C3.out _ (D1.out.trans (n1.mono D1.out.size))
    have N1 := hid n1
    clear hb1 n1
    go_wp2_with fail
    go_loopw [4, 27] (fun u i wr => ∃ k : Nat, k ≤ st.size ∧ i = .int .i64 k ∧ wr.ownsRow w1.heap.size 5 1 u ([UInt8.ofNat 2] ++ chsB (st.toList.take k)).length (([UInt8.ofNat 2] ++ chsB (st.toList.take k)).map encB) ∧ Below w1.heap.size w1 wr) (fun _ i _ => st.size - (intOf i).toNat)
    case atStart => exact ⟨0, Nat.zero_le _, rfl, by simpa [chsB] using LT.out, N1.out⟩
    case round =>
      obtain ⟨k, hk, rfl, hown, hnx⟩ := hrel
      have hsz := hnx.size
      have k0 : (0 : Int) ≤ (k : Int) := by omega
      have hol : ([UInt8.ofNat 2] ++ chsB (st.toList.take k)).length ≤ 401 := by
        have h1 := chsB_length (st.toList.take k)
        have h2 : (st.toList.take k).length ≤ k := List.length_take_le _ _
        rw [List.length_append, List.length_singleton]; omega
      have HOL := hid hol
      have OW := hid hown
      have NX := hid hnx
      obtain ⟨z0, z1, z2⟩ := C3.out _ (D1.out.trans (hnx.mono D1.out.size))
      by_cases hlt : k < st.size
      · have hg := GET.out k hlt
        obtain ⟨c, hc⟩ : ∃ c, st[k]'hlt = c := ⟨_, rfl⟩
        rw [hc] at hg
        have hcn : (st[k]'hlt).toNat = c.toNat := by rw [hc]
        have TN := hid (show [UInt8.ofNat 2] ++ chsB (st.toList.take (k + 1)) = ([UInt8.ofNat 2] ++ chsB (st.toList.take k)) ++ chB c by rw [take_next hg, chsB_snoc, List.append_assoc])
        have HLT := hid hlt
        clear hol hown hnx hg
        generalize [UInt8.ofNat 2] ++ chsB (st.toList.take k) = cur at *
        go_wp2_with (at_builtin; refine wpList_pushE rfl _ _ 24 rfl w1.heap.size 5 (.int .u8 0) 1 undBytes infoByte rfl (by decide) encB _ cur rfl (OW.out.alloc _) ⟨wr.heap.size, 0, none⟩ c rfl rfl (by first | exact cell_new | (rw [hcn]; exact cell_new)) (by have := HOL.out; omega) (by simp; omega) ?_)
        intro v4 w4 hown4 hg4 _
        have hb4 := below_push NX.out hsz OW.out hg4
        have ho4 : w4.ownsRow w1.heap.size 5 1 v4 (cur ++ [c]).length ((cur ++ [c]).map encB) := by simpa using hown4
        obtain ⟨x0, x1, x2⟩ := C3.out _ (D1.out.trans (hb4.mono D1.out.size))
        have O4 := hid ho4
        have B4 := hid hb4
        have hsz4 := hb4.size
        clear hown4 hg4 hb4 ho4 z0 z1 z2 t00 t01 t02 t10 t11 t12 y0 y1 y2
        by_cases hz : c = 0
        · have CH := hid (show chB c = [c] ++ [255] by rw [hz]; rfl)
          have hcz : ((c.toNat : Int) == 0) = true := by rw [hz]; rfl
          have H4L := hid (show (cur ++ [c]).length ≤ 402 by rw [List.length_append, List.length_singleton]; have := HOL.out; omega)
          have CC := hid (show cur ++ chB c = (cur ++ [c]) ++ [255] by rw [CH.out, List.append_assoc])
          generalize cur ++ [c] = cur2 at *
          go_wp2_with (at_builtin; refine wpList_pushE rfl _ _ 24 rfl w1.heap.size 5 (.int .u8 0) 1 undBytes infoByte rfl (by decide) encB _ cur2 rfl (O4.out.alloc _) ⟨w4.heap.size, 0, none⟩ 255 rfl rfl cell_new (by have := H4L.out; omega) (by simp; omega) ?_)
          intro v5 w5 hown5 hg5 _
          have hb5 := below_push B4.out hsz4 O4.out hg5
          have ho5 : w5.ownsRow w1.heap.size 5 1 v5 ([UInt8.ofNat 2] ++ chsB (st.toList.take (k + 1))).length (([UInt8.ofNat 2] ++ chsB (st.toList.take (k + 1))).map encB) := by rw [TN.out, CC.out]; simpa using hown5
          have O5 := hid ho5
          have B5 := hid hb5
          clear hown5 hg5 hb5 ho5
          go_wp2_with fail
          go_roundw
          case rel => exact ⟨k + 1, by have := HLT.out; omega, by go_num, O5.out, B5.out⟩
          case measure => have := HLT.out; simp [intOf]; omega
        · have hcz : ((c.toNat : Int) == 0) = false := by
            rw [beq_eq_false_iff_ne]
            intro e
            exact hz (UInt8.toNat_inj.1 (by have : c.toNat = 0 := by omega
                                            rw [this]; rfl))
          have O5 := hid (show w4.ownsRow w1.heap.size 5 1 v4 ([UInt8.ofNat 2] ++ chsB (st.toList.take (k + 1))).length (([UInt8.ofNat 2] ++ chsB (st.toList.take (k + 1))).map encB) by rw [TN.out, show chB c = [c] by unfold chB; rw [if_neg hz]]; exact O4.out)
          clear hz
          go_wp2_with fail
          go_roundw
          case rel => exact ⟨k + 1, by have := HLT.out; omega, by go_num, O5.out, B4.out⟩
          case measure => have := HLT.out; simp [intOf]; omega
      · have OF := hid (show wr.ownsRow w1.heap.size 5 1 u4 ([UInt8.ofNat 2] ++ chsB st.toList).length (([UInt8.ofNat 2] ++ chsB st.toList).map encB) by
          have h := OW.out
          rwa [List.take_of_length_le (show st.toList.length ≤ k by rw [HST.out]; omega)] at h)
        have HOL2 := hid (show ([UInt8.ofNat 2] ++ chsB st.toList).length ≤ 401 by
          have h := HOL.out
          rwa [List.take_of_length_le (show st.toList.length ≤ k by rw [HST.out]; omega)] at h)
        obtain ⟨i, hi, hz0, hz1, hz2⟩ := info_parts infoByte
        clear hol hown hnx OW HOL
        generalize [UInt8.ofNat 2] ++ chsB st.toList = cur at *
        go_wp2_with (at_builtin; refine wpList_append_own _ rfl _ _ 24 rfl w1.heap.size 5 i (.int .u8 0) 1 1 undBytes hi hz0 hz1 hz2 rfl (by decide) _ _ _ rfl (OF.out.alloc _) ⟨wr.heap.size, 0, none⟩ 2 2 [.int .u8 0, .int .u8 1] rfl rfl (by intro j u hj; match j, hj with | 0, hj => (simp at hj; subst hj; simp [Addr.add]) | 1, hj => (simp at hj; subst hj; simp [Addr.add])) (by intro u hu; simp at hu; rcases hu with rfl | rfl <;> rfl) (by have := HOL2.out; unfold maxLen; omega) (by have := HOL2.out; omega) (by simp; omega) ?_)
        intro v6 w6 hown6 hg6 _
        have hb6 := below_push NX.out hsz OF.out hg6
        have ho6 : w6.ownsRow w1.heap.size 5 1 v6 R.length (R.map encB) := by rw [KE.out]; simpa [encB] using hown6
        obtain ⟨g, cap, hv6⟩ := own_formK ho6 (by rw [KE.out]; simp)
        subst hv6
        have CV := conv_any ho6
        have BF := hid (B0.out.trans ((D1.out.trans (hb6.mono D1.out.size)).mono hsz0))
        clear hown6 hg6 hb6 ho6
        go_wp2_with fail
        go_ret2
        exact ⟨rfl, BF.out⟩
  · rw [if_pos (by decide)] at KB
    go_enter Tryz.func81, Tryz.ntmps81
    go_wp2_with fail
    rw [W0.out]
    go_wp2_with fail
    refine (VA.out _).mono ?_
    rintro e w1 ⟨rfl, hb1⟩
    have D1 := hid hb1
    obtain ⟨t10, t11, t12⟩ := C3.out _ hb1
    have LT := hid (show (w1.alloc (.cells #[.int .u8 3] 5)).ownsRow w1.heap.size 5 1 (.slice (some ⟨w1.heap.size, 0, none⟩) 1 1) [UInt8.ofNat 3].length ([UInt8.ofNat 3].map encB) from lit1 w1 (UInt8.ofNat 3))
    have n1 := below_alloc w1 (.cells #[.int .u8 3] 5)
    obtain ⟨y0, y1, y2⟩ := C3.out _ (D1.out.trans (n1.mono D1.out.size))
    have D2 := hid (D1.out.trans (n1.mono D1.out.size))
    have hs1 : w1.heap.size ≤ (w1.alloc (.cells #[.int .u8 3] 5)).heap.size := n1.size
    have NC := hid (NU.out [UInt8.ofNat 3] _ w1.heap.size _ LT.out hs1 (by simp))
    have HS1 := hid hs1
    clear hb1 n1 hs1
    go_wp2_with fail
    refine NC.out.mono ?_
    rintro e w2 ⟨v2, rfl, ho2, hb2⟩
    obtain ⟨g, cap, hv2⟩ := own_formK ho2 (by simp)
    subst hv2
    have CV := conv_any ho2
    have BF := hid (B0.out.trans ((D1.out.trans ((((Below.refl _ w1).alloc (Nat.le_refl _) _).trans hb2).mono D1.out.size)).mono hsz0))
    have KE := hid (show R = [UInt8.ofNat 3] ++ numB nm by rw [KB.out]; rfl)
    rw [← KE.out] at CV ⊢
    clear ho2 hb2
    go_wp2_with fail
    go_ret2
    exact ⟨rfl, BF.out⟩

end Go.Proofs.YtgahpgmagfngfaaGreatDoor


/- The walks of bits.TrailingZeros32 and attrset.Members, over the table that they read. -/
namespace Go.Proofs.YtgahpgmagfngfaaGreatDoor
open Go.RowKit

/-- The table of the library, and a world that holds it. -/
def tabL : List Nat := [0, 1, 28, 2, 29, 14, 24, 3, 30, 22, 20, 15, 25, 17, 4, 8, 31, 27, 13, 23, 21, 19, 16, 7, 26, 12, 18, 6, 11, 5, 10, 9]
def Tab (w : World) : Prop := 0 < w.heap.size ∧ ∀ i n : Nat, tabL[i]? = some n → w.cell? ⟨0, i, none⟩ = some (.int .u8 (n : Int))
theorem Tab.below {w w' : World} (h : Tab w) (hb : Below w.heap.size w w') : Tab w' :=
  ⟨Nat.lt_of_lt_of_le h.1 hb.size, fun i n hi => (hb.cell (p := ⟨0, i, none⟩) h.1).trans (h.2 i n hi)⟩
def tzx (s : S) : S := ((s &&& -s) * 125613361#32) >>> 27
theorem tab_low : ∀ i : Fin 32, tabL[((bit i.val * 125613361#32) >>> 27).toNat]? = some i.val := by decide +kernel
theorem tab_less : ∀ i : Fin 32, ((bit i.val * 125613361#32) >>> 27).toNat < 32 := by decide +kernel
theorem tzx_spec {s : S} {i : Nat} (hi : i < 32) (hb : s &&& -s = bit i) : ∃ k : Nat, k < 32 ∧ iv (tzx s) = (k : Int) ∧ tabL[k]? = some i := by
  refine ⟨(tzx s).toNat, ?_, rfl, ?_⟩
  · unfold tzx; rw [hb]; exact tab_less ⟨i, hi⟩
  · unfold tzx; rw [hb]; exact tab_low ⟨i, hi⟩

@[go_sem] theorem iv_mulc (a : S) : IntKind.u32.wrap (iv a * 125613361) = iv (a * 125613361#32) := by
  rw [IntKind.wrap_u32]; unfold iv
  rw [BitVec.toNat_mul]; simp
@[go_sem] theorem iv_div27 (s : S) : iv s / (134217728 : Int) = iv (s >>> 27) := iv_shr s 27

/-- TrailingZeros32. -/
theorem tz_any (s : S) (w : World) (hT : Tab w) (i : Nat) (hi : i < 32) (h0 : s ≠ 0#32) (hb : s &&& -s = bit i) :
    Calls Tryz.prog 158 #[enc s] w fun e w' => e = .returned (.int .i64 i) ∧ w = w' := by
  obtain ⟨k, hk, hx, ht⟩ := tzx_spec hi hb
  have hc := hT.2 _ _ ht
  have hz : (s == 0#32) = false := by simpa using h0
  have hx' : iv (((s &&& -s) * 125613361#32) >>> 27) = (k : Int) := hx
  clear hx ht hT hb h0
  simp only [enc_eq]
  go_enter Tryz.func158, Tryz.ntmps158
  go_wp2_with fail
  go_ret
  exact ⟨rfl, rfl⟩

/-- Members. -/
theorem amembers_any (s : S) (w : World) (hT : Tab w) :
    Calls Tryz.prog 130 #[enc s] w fun e w' => ∃ v, e = .returned v ∧ w'.ownsRow w.heap.size 3 1 v (memN s 32).length ((memN s 32).map encI) ∧ Below w.heap.size w w' := by
  have C := hid (fun (r : S) (W : World) (hb : Below w.heap.size w W) => tz_any r W (hT.below hb))
  have ML := memN_length s 32
  simp only [enc_eq] at C ⊢
  clear hT
  go_enter Tryz.func130, Tryz.ntmps130
  go_wp2_with fail
  go_loopw [0, 3] (fun u o wr => ∃ (r : S) (out : List Nat), u = .int .u32 (iv r) ∧ wr.ownsRow w.heap.size 3 1 o out.length (out.map encI) ∧ Hid (out ++ memN r 32 = memN s 32) ∧ Below w.heap.size w wr) (fun u _ _ => (intOf u).toNat)
  case atStart => exact ⟨s, [], rfl, World.ownsRow_nil _ _ _ _, hid rfl, Below.refl _ _⟩
  case round =>
    obtain ⟨r, out, rfl, hown, M, hnx⟩ := hrel
    have hsz := hnx.size
    have hol : out.length ≤ 32 := by have := congrArg List.length M.out; simp at this; omega
    cases hr : (r != 0#32) with
    | true =>
      have h0 : r ≠ 0#32 := by simpa using hr
      obtain ⟨i, hi, h1, h2, h3, h4⟩ := low_bit h0
      have T := hid (C.out r wr hnx i hi h0 h3)
      have hdl := drop_low_lt h0
      have M2 := hid (show (out ++ [i]) ++ memN (r &&& (r - 1#32)) 32 = memN s 32 by
        rw [← M.out, memN_low hi h1 h2, h4]; simp)
      have hrl := r.isLt
      clear h1 h2 h3 h4 h0 M
      go_wp2_with fail
      refine (T.out).mono ?_
      rintro e w' ⟨rfl, rfl⟩
      go_wp2_with (at_builtin; refine wpList_push rfl _ _ 37 rfl w.heap.size 3 (.int .i64 0) 8 undInts infoInt rfl (by decide) encI (fun _ => rfl) _ out rfl (hown.alloc _) ⟨wr.heap.size, 0, none⟩ i rfl cell_new (by omega) (by simp; omega) ?_)
      intro v' w1 hown' hgrow
      have hb1 := below_push hnx hsz hown hgrow
      clear hgrow hown hnx
      go_wp2_with fail
      go_roundw
      case rel => exact ⟨r &&& (r - 1#32), out ++ [i], rfl, by simpa using hown', M2, hb1⟩
      case measure => simp only [intOf, iv]; omega
    | false =>
      have h0 : r = 0#32 := by simpa using hr
      have M2 := hid (show out = memN s 32 by rw [← M.out, h0, memN_zero, List.append_nil])
      go_wp2_with fail
      go_ret
      rw [← M2.out]
      exact ⟨_, rfl, hown, hnx⟩

end Go.Proofs.YtgahpgmagfngfaaGreatDoor


/- The walk of keymine's Duplicates. -/
namespace Go.Proofs.YtgahpgmagfngfaaGreatDoor
open Go.RowKit
set_option linter.unusedVariables false

theorem step_pushE {α : Type} {P : Program} {w : World} {ops : Array Oper} {o : Oper} {a : Act} {K : Act → World → Prop} {Q : Exit → Act → World → Prop} {E : Prop} (hgd : o.guard = none) (s x : Operand) (t : TypeId)
    (ho : o.op = .call { callee := .builtin .append, args := #[s, x], argTypes := #[t, t] })
    (B : Nat) (e : TypeId) (z : Value) (bytes : Nat) (ht : P.underlying t = some (.slice e)) (hinfo : (P.info? e).map (fun i => (i.zero, i.size, i.bytes)) = some (some z, 1, bytes)) (hz : z.cells.size = 1) (hb8 : bytes ≤ 64)
    (f : α → Value) (v : Value) (xs : List α) (hs : a.eval s = v) (hown : w.ownsRow B e 1 v xs.length (xs.map f))
    (ad : Addr) (y : α) (hf : (f y).oneCell' = true) (hx : a.eval x = .slice (some ad) 1 1) (hy : w.cell? ad = some (f y)) (hl : xs.length < 2199023255552) (hB : B ≤ w.heap.size)
    (h : ∀ v' w', w'.ownsRow B e 1 v' (xs ++ [y]).length ((xs ++ [y]).map f) → w.grownBy w' v.ownBlock → (v'.ownBlock = v.ownBlock ∨ v'.ownBlock = some w.heap.size) → K (a.put o.dst v') w') :
    if Region.wanted o (yielded ops a.tmps) = true then Oper.wp P o a w K Q else E := by
  refine step_pushB hgd s x t ho B e z 1 bytes ht hinfo hz (by decide) hb8 (fun y => [f y]) (fun _ => rfl) v xs hs (by rw [← List.map_eq_flatMap]; exact hown) ad y (by simpa using hf) hx ?_ hl hB ?_
  · intro j u hj
    match j, hj with
    | 0, hj => simp at hj; subst hj; rw [Addr.add_zero']; exact hy
  · intro v' w' h1 h2 h3
    rw [← List.map_eq_flatMap] at h1
    exact h v' w' h1 h2 h3

theorem kE_ok {t : T3} {s : S} {small : Bool} (h : kE t s small = 0) : tabE2 t = 0 ∧ (∀ i, t.2.1.length ≤ i → s.getLsbD i = false) ∧ (small = true → t.2.1.length ≤ 12) := by
  unfold kE at h
  split at h
  · rename_i h1; exact absurd h h1
  · rename_i h1
    split at h
    · exact absurd h (by decide)
    · rename_i h2
      split at h
      · exact absurd h (by decide)
      · rename_i h3
        have h200 : ¬ 200 < t.2.2.length := fun e => h2 (.inl e)
        have hE : tabE2 t = 0 := by unfold tabE2; rw [if_neg h1, if_neg h200]
        refine ⟨hE, fun i hi => ?_, fun hs => ?_⟩
        · have h16 := (tabE2_ok hE).1
          have h4 : s >>> min t.2.1.length 32 = 0#32 := by simpa using h3
          rw [Nat.min_eq_left (by omega)] at h4
          have := congrArg (fun x => x.getLsbD (i - t.2.1.length)) h4
          simpa [BitVec.getLsbD_ushiftRight, Nat.add_sub_cancel' hi] using this
        · have : ¬ 12 < t.2.1.length := fun e => h2 (.inr ⟨hs, e⟩)
          omega
theorem own_sliceN {w : World} {B n : Nat} {e : TypeId} {v : Value} {xs : List Value} (h : w.ownsRow B e 1 v n xs) : ∃ ao n cap, v = .slice ao n cap := by
  obtain ⟨ao, cap, h⟩ := own_sliceG h
  exact ⟨ao, _, cap, h⟩
theorem undStrK : Tryz.prog.underlying 9 = some .string := by kernel_rfl
abbrev OwnP := OwnG (strKeys (P := Tryz.prog) (k := 9) undStrK) (.int .i64 0)
theorem bigs_map (gs : List Gp) : (bigs gs).map (·.2) = (gs.map (·.2)).filter fun g => decide (2 ≤ g.length) := by
  unfold bigs
  rw [List.filter_map]
  congr 1
  apply List.filter_congr
  intro g _
  show (!decide ((g.2.length : Int) < 2)) = decide (2 ≤ g.2.length)
  by_cases h : 2 ≤ g.2.length
  · rw [decide_eq_true h, decide_eq_false (by omega)]; rfl
  · rw [decide_eq_false h, decide_eq_true (by omega)]; rfl


end Go.Proofs.YtgahpgmagfngfaaGreatDoor


/- The walks of keymine's Unique, All, Maximal, right and Best. -/
namespace Go.Proofs.YtgahpgmagfngfaaGreatDoor
open Go.RowKit
set_option linter.unusedVariables false

/-! Plain. -/
theorem bits_sub {s : S} {m : Nat} (h : ∀ i, m ≤ i → s.getLsbD i = false) (hm : m ≤ 32) : sub s (fullN m) := by
  refine sub_full_lt.2 ?_
  by_cases hlt : s.toNat < 2 ^ m
  · exact hlt
  · exfalso
    obtain ⟨i, hi, hb⟩ := Nat.exists_ge_and_testBit_of_ge_two_pow (Nat.le_of_not_lt hlt)
    rw [BitVec.testBit_toNat, h i hi] at hb
    cases hb
def okT (t : T3) : Prop := ∀ r ∈ t.2.2, ∀ x ∈ r.2.2, okV x

theorem RdG.nil (w : World) : RdG w (.slice none 0 0) [] := ⟨RdE.of_owns (World.ownsRow_nil (w := w) 0 0 1) (by simp), by simp⟩


/-! All, Maximal, Best. -/
def kallL (t : T3) : List S := if kE t 0#32 true = 0 then keyN t.2.1.length (pairsS t.2.2) else []

set_option maxHeartbeats 1600000 in
set_option maxRecDepth 100000 in
theorem kall_any (t : T3) (av rv : Value) (w : World) (ht : RdT w av rv t) :
    Calls Tryz.prog 14 #[.agg #[.string t.1, av, rv]] w fun e w' => ∃ v', e = .returned (.tuple #[v', .int .i64 (kE t 0#32 true)]) ∧ w'.ownsRow w.heap.size 55 1 v' (kallL t).length ((kallL t).map enc) ∧ (kallL t).length ≤ 65536 ∧ Below w.heap.size w w' := by
  have hb0 := below_alloc w (.cells #[.string t.1, av, rv] 48)
  have C3 := hid (fun W h => cells3 (w := w) (a := .string t.1) (b := av) (c := rv) (t := 48) W h)
  have T0 := hid (ht.below hb0)
  obtain ⟨w0, hw0⟩ : ∃ w0 : World, w.alloc (.cells #[.string t.1, av, rv] 48) = w0 := ⟨_, rfl⟩
  rw [hw0] at hb0 C3 T0
  have B0 := hid hb0
  have W0 := hid hw0
  have hsz0 := hb0.size
  clear hb0 hw0
  have KC := hid (fun (W : World) (h : Below w0.heap.size w0 W) => show Calls Tryz.prog 32 #[.agg #[.string t.1, av, rv], .int .u32 0, .bool true] W fun e w' => e = .returned (.int .i64 (kE t 0#32 true)) ∧ Below W.heap.size W w' from kcheck_any t av rv 0#32 true W (T0.out.below h))
  have KL := hid (show kallL t = if kE t 0#32 true = 0 then keyN t.2.1.length (pairsS t.2.2) else [] from rfl)
  obtain ⟨t00, t01, t02⟩ := C3.out _ (Below.refl _ _)
  by_cases h0 : kE t 0#32 true = 0
  · obtain ⟨hk2, -, h12⟩ := kE_ok h0
    replace h12 := h12 rfl
    rw [h0] at KC
    rw [if_pos h0] at KL
    rw [KL.out, h0]
    have KW := hid (fun (W : World) (h : Below w0.heap.size w0 W) => kwits_any t av rv W (T0.out.below h) hk2)
    have KS2 := hid (fun (v : Value) (W : World) (h : RdW W v (witsL t.2.2)) (h2 : (witsL t.2.2).length ≤ 40000) => ksets_any (witsL t.2.2) v W h (by omega))
    have KU := hid (fun (v : Value) (W : World) (h : RdE enc W v ((witsL t.2.2).map (·.1))) => kuniques_any t.2.1.length h12 ((witsL t.2.2).map (·.1)) v W h)
    rw [witsL_sets] at KS2 KU
    rw [keyN_max] at KU
    have KB := hid (keyN_bound (show t.2.1.length ≤ 16 by omega) (pairsS t.2.2))
    have WLS := hid (show (keepS upR (pairsS t.2.2)).length = (witsL t.2.2).length by rw [← witsL_sets, List.length_map])
    obtain ⟨nm, ats, rs⟩ := t
    obtain ⟨ao, acap, hva, -⟩ := T0.out.1.split
    simp only at hva KS2 KU KB WLS KW
    subst hva
    show Calls _ _ _ _ fun e w' => ∃ v', e = .returned (.tuple #[v', .int .i64 0]) ∧ w'.ownsRow w.heap.size 55 1 v' (keyN ats.length (pairsS rs)).length ((keyN ats.length (pairsS rs)).map enc) ∧ (keyN ats.length (pairsS rs)).length ≤ 65536 ∧ Below w.heap.size w w'
    generalize keyN ats.length (pairsS rs) = ky at *
    generalize keepS upR (pairsS rs) = ks at *
    generalize witsL rs = wl at *
    clear ht h0 hk2 KL h12
    go_enter Tryz.func14, Tryz.ntmps14
    go_wp2_with fail
    rw [W0.out]
    go_wp2_with fail
    refine (KC.out _ (Below.refl _ _)).mono ?_
    rintro e w1 ⟨rfl, hb1⟩
    have HB1 := hid hb1
    have hs1 := hb1.size
    have SS := hid (fun (W : World) (h : Below w1.heap.size w1 W) => show Below w1.heap.size w1 W ∧ W.cell? ⟨w.heap.size, 0, none⟩ = some (.string nm) ∧ W.cell? ⟨w.heap.size, 1, none⟩ = some (.slice ao ats.length acap) ∧ W.cell? ⟨w.heap.size, 2, none⟩ = some rv from ⟨h, C3.out _ (HB1.out.trans (h.mono hs1))⟩)
    have KW1 := hid (fun (W : World) (h : Below w1.heap.size w1 W) => KW.out W (HB1.out.trans (h.mono hs1)))
    have HLE := hid (show w.heap.size ≤ w1.heap.size from Nat.le_trans hsz0 hs1)
    clear hb1 t00 t01 t02
    go_wp2_with fail
    go_region_held3 (fun W => Below w1.heap.size w1 W ∧ W.cell? ⟨w.heap.size, 0, none⟩ = some (.string nm) ∧ W.cell? ⟨w.heap.size, 1, none⟩ = some (.slice ao ats.length acap) ∧ W.cell? ⟨w.heap.size, 2, none⟩ = some rv)
      (first | exact SS.out _ (Below.refl _ _).drew | exact SS.out _ (by assumption))
      (first
        | (go_at_call 35; have hS := And.left ‹Below w1.heap.size w1 _ ∧ _ ∧ _›; refine (KW1.out _ hS).mono ?_; rintro e wa ⟨va, rfl, hoa, hla, hba⟩; have hLa := hS.trans (hba.mono hS.size); have hra := RdC.of_owns cW_length hoa (by omega); clear hba hS hoa)
        | (go_at_call 34; have hS := And.left ‹Below w1.heap.size w1 _ ∧ _ ∧ _›; refine (KS2.out _ _ hra hla).mono ?_; rintro e wb ⟨vb, rfl, hob, hbb⟩; have hLb := hS.trans (hbb.mono hS.size); have hrb := RdE.of_owns hob (by have := WLS.out; omega); clear hbb hS hob)
        | (go_at_call 33; have hS := And.left ‹Below w1.heap.size w1 _ ∧ _ ∧ _›; refine (KU.out _ _ hrb).mono ?_; rintro e wc ⟨vc, rfl, hoc, hbc⟩; have hLc := hS.trans (hbc.mono hS.size); have hoc2 := own_mono hoc (Nat.le_trans HLE.out hS.size); clear hbc hS hoc))
    all_goals
      have BQ := hid (B0.out.trans ((HB1.out.trans (hLc.mono hs1)).mono hsz0))
      have OQ := hid hoc2
      clear hLa hLb hLc hra hrb hoc2 hla
      go_wp2_with fail
      go_ret2
      exact ⟨_, rfl, OQ.out, KB.out, BQ.out⟩
  · rw [if_neg h0] at KL
    rw [KL.out]
    generalize kE t 0#32 true = ke at *
    have hne : (ke != (0 : Int)) = true := by simpa using h0
    obtain ⟨nm, ats, rs⟩ := t
    clear ht h0 KL
    go_enter Tryz.func14, Tryz.ntmps14
    go_wp2_with fail
    rw [W0.out]
    go_wp2_with fail
    refine (KC.out _ (Below.refl _ _)).mono ?_
    rintro e w1 ⟨rfl, hb1⟩
    have B1 := hid (B0.out.trans (hb1.mono hsz0))
    clear hb1
    go_wp2_with fail
    go_ret2
    exact ⟨_, rfl, World.ownsRow_nil _ _ _ _, by simp, B1.out⟩


end Go.Proofs.YtgahpgmagfngfaaGreatDoor

