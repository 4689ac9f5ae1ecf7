/- Texts that belong together, in one file. -/
import Derived.Test.YtalejolehccclaaGreatDoorGKm1
import Derived.Test.YtalejolehccclaaGreatDoorGTab27
import Derived.Test.YtalejolehccclaaGreatDoorGTab14
import Derived.Test.YtalejolehccclaaGreatDoorGOrd
import Derived.Test.YtalejolehccclaaGreatDoorGTab20
import Derived.Test.YtalejolehccclaaGreatDoorGWalk
import Derived.Test.YtalejolehccclaaGreatDoorCells
import Derived.Test.YtalejolehccclaaGreatDoorGTab30
import Derived.Test.YtalejolehccclaaGreatDoorAfter
/- The walks of the reference of chapter 29: All, Witnesses. -/
namespace Go.Proofs.YtalejolehccclaaGreatDoor
open Go.RowKit
set_option linter.unusedVariables false

theorem sub_full_lt {s : S} {m : Nat} : sub s (fullN m) ↔ s.toNat < 2 ^ m := by
  rw [sub_full]
  constructor
  · intro h
    have := congrArg BitVec.toNat h
    rw [BitVec.toNat_ushiftRight, Nat.shiftRight_eq_div_pow] at this
    exact (Nat.div_eq_zero_iff_lt (Nat.two_pow_pos m)).1 this
  · intro h
    apply BitVec.eq_of_toNat_eq
    rw [BitVec.toNat_ushiftRight, Nat.shiftRight_eq_div_pow]
    exact Nat.div_eq_of_lt h



end Go.Proofs.YtalejolehccclaaGreatDoor


/- Plain laws of the keys of rows: the bytes of the values at a set, and the groups by them. No program. -/
namespace Go.Proofs.YtalejolehccclaaGreatDoor
open Go.RowKit
set_option linter.unusedVariables false

section
variable {κ : Type} [DecidableEq κ]
def hasK (ks : List κ) (k : κ) : Bool := decide (k ∈ ks)
theorem hasK_in {ks : List κ} {k : κ} (h : k ∈ ks) : hasK ks k = true := decide_eq_true h
theorem hasK_out {ks : List κ} {k : κ} (h : k ∉ ks) : hasK ks k = false := decide_eq_false h
theorem hasK_snoc (ks : List κ) (k s : κ) : hasK (ks ++ [k]) s = if s = k then true else hasK ks s := by
  by_cases e : s = k
  · rw [if_pos e, hasK_in (by simp [e])]
  · rw [if_neg e]
    unfold hasK
    rw [decide_eq_decide]
    simp [e]
end
/-- A row's key at a set, and the pairs of key and number. -/
def lK (rs : List Row3) (s : S) : List (List V3 × Int) := rs.map fun r => (valTo r.2.2 s r.2.2.length, r.1)
def strB (l : List UInt8) : ByteArray := ⟨l.toArray⟩
theorem strB_size (l : List UInt8) : (strB l).size = l.length := by unfold strB; simp [ByteArray.size]
theorem strB_append (a b : List UInt8) : strB a ++ strB b = strB (a ++ b) := by
  apply ByteArray.ext
  simp [strB, ByteArray.data_append]
theorem strB_inj {a b : List UInt8} (h : strB a = strB b) : a = b := by
  have := congrArg (fun x => x.data.toList) h
  simpa [strB] using this
def mkKS (l : List UInt8) : KS := if h : l.length ≤ maxLen then ⟨strB l, by rw [strB_size]; exact h⟩ else ⟨ByteArray.mk #[], Nat.zero_le _⟩
theorem mkKS_val {l : List UInt8} (h : l.length ≤ maxLen) : (mkKS l).1 = strB l := by unfold mkKS; rw [dif_pos h]
theorem mkKS_inj {a b : List UInt8} (ha : a.length ≤ maxLen) (hb : b.length ≤ maxLen) (h : mkKS a = mkKS b) : a = b := by
  have := congrArg Subtype.val h
  rw [mkKS_val ha, mkKS_val hb] at this
  exact strB_inj this
/-- The key as the program makes it: the values at the members, one behind the other. -/
def kyB (xs : List V3) (ms : List Nat) : List UInt8 := keysB (ms.map fun a => xs.getD a noV)
theorem kyB_next {xs : List V3} {ms : List Nat} {j a : Nat} {x : V3} (h : ms[j]? = some a) (hx : xs[a]? = some x) : kyB xs (ms.take (j + 1)) = kyB xs (ms.take j) ++ keyB x := by
  unfold kyB keysB
  rw [take_next h, List.map_append, List.flatMap_append]
  simp [List.getD, hx]
theorem keysB_length {xs : List V3} (h : ∀ x ∈ xs, validV x = true) : (keysB xs).length ≤ 403 * xs.length := by
  unfold keysB
  induction xs with
  | nil => simp
  | cons x xs ih =>
    have h1 := keyB_length x (h x (by simp))
    have h2 := ih (fun y hy => h y (by simp [hy]))
    rw [List.flatMap_cons, List.length_append, List.length_cons]
    omega
theorem memN_map (xs : List V3) (s : S) (m : Nat) : (memN s m).map (fun a => xs.getD a noV) = valTo xs s m := by
  induction m with
  | zero => rfl
  | succ m ih =>
    unfold valTo
    cases hb : s.getLsbD m with
    | true => rw [memN_yes hb, List.map_append, ih, if_pos rfl]; rfl
    | false => rw [memN_no hb, ih, if_neg (by simp)]
theorem memN_cut {s : S} {m : Nat} (h : ∀ i, m ≤ i → s.getLsbD i = false) : ∀ k, m ≤ k → memN s k = memN s m := by
  intro k hk
  induction k with
  | zero => rw [Nat.le_zero.1 hk]
  | succ k ih =>
    by_cases e : m = k + 1
    · rw [e]
    · rw [memN_no (h k (by omega)), ih (by omega)]
theorem sub_full_bits {s : S} {m : Nat} (hm : m ≤ 32) (h : sub s (fullN m)) : ∀ i, m ≤ i → s.getLsbD i = false := by
  intro i hi
  cases hb : s.getLsbD i with
  | false => rfl
  | true =>
    have hl := sub_full_lt.1 h
    have : 2 ^ i ≤ s.toNat := by
      rw [← BitVec.testBit_toNat] at hb
      exact Nat.ge_two_pow_of_testBit hb
    have h2 : 2 ^ m ≤ 2 ^ i := Nat.pow_le_pow_right (by decide) hi
    omega
theorem kyB_val {xs : List V3} {s : S} (h : ∀ i, xs.length ≤ i → s.getLsbD i = false) (h32 : xs.length ≤ 32) : kyB xs (memN s 32) = keysB (valTo xs s xs.length) := by
  unfold kyB
  rw [memN_cut h 32 h32, memN_map]
theorem valTo_mem {xs : List V3} {s : S} {m : Nat} (hm : m ≤ xs.length) {x : V3} (h : x ∈ valTo xs s m) : x ∈ xs := by
  rw [← memN_map] at h
  obtain ⟨a, ha, rfl⟩ := List.mem_map.1 h
  have h1 := (mem_memN.1 ha).1
  have h2 : a < xs.length := by omega
  show xs.getD a noV ∈ xs
  rw [List.getD, List.getElem?_eq_getElem h2]
  exact List.getElem_mem _
def lB (rs : List Row3) (s : S) : List (KS × Int) := rs.map fun r => (mkKS (kyB r.2.2 (memN s 32)), r.1)
theorem kyB_length {xs : List V3} {ms : List Nat} (h : ∀ x ∈ xs, validV x = true) (hm : ∀ a ∈ ms, a < xs.length) (hl : ms.length ≤ 32) : (kyB xs ms).length ≤ 12896 := by
  have := keysB_length (xs := ms.map fun a => xs.getD a noV) (fun x hx => by
    obtain ⟨a, ha, rfl⟩ := List.mem_map.1 hx
    have h2 := hm a ha
    apply h
    show xs.getD a noV ∈ xs
    rw [List.getD, List.getElem?_eq_getElem h2]
    exact List.getElem_mem _)
  rw [List.length_map] at this
  unfold kyB
  omega
theorem mem_lt {xs : List V3} {s : S} (h : ∀ i, xs.length ≤ i → s.getLsbD i = false) : ∀ a ∈ memN s 32, a < xs.length := by
  intro a ha
  have h1 := (mem_memN.1 ha).2
  by_cases hlt : a < xs.length
  · exact hlt
  · rw [h a (by omega)] at h1; cases h1
/-- The groups by the bytes are the groups by the values. -/
theorem lB_groups {rs : List Row3} {s : S} {m : Nat} (hm : m ≤ 32) (hr : ∀ r ∈ rs, r.2.2.length = m) (hok : ∀ r ∈ rs, ∀ x ∈ r.2.2, okV x) (hs : ∀ i, m ≤ i → s.getLsbD i = false) : grpOf (lB rs s) = grpOf (lK rs s) := by
  have hlen : ∀ k ∈ (lK rs s).map (·.1), (keysB k).length ≤ maxLen := by
    intro k hk
    obtain ⟨p, hp, rfl⟩ := List.mem_map.1 hk
    obtain ⟨r, hrm, rfl⟩ := List.mem_map.1 hp
    have h1 := keysB_length (xs := valTo r.2.2 s r.2.2.length) (fun x hx => (hok r hrm x (valTo_mem (Nat.le_refl _) hx)).1)
    have h2 := valTo_length r.2.2 s r.2.2.length
    have h3 := hr r hrm
    have : (403 : Nat) * 32 ≤ maxLen := by decide
    show (keysB (valTo r.2.2 s r.2.2.length)).length ≤ maxLen
    omega
  have e : lB rs s = (lK rs s).map fun p => ((fun k => mkKS (keysB k)) p.1, p.2) := by
    unfold lB lK
    rw [List.map_map]
    apply List.map_congr_left
    intro r hrm
    have h3 := hr r hrm
    show (mkKS (kyB r.2.2 (memN s 32)), r.1) = (mkKS (keysB (valTo r.2.2 s r.2.2.length)), r.1)
    rw [kyB_val (by rw [h3]; exact hs) (by omega)]
  rw [e]
  refine (grpOf_rename (fun k => mkKS (keysB k)) (lK rs s) ?_).1
  intro p hp q hq h
  have h1 := mkKS_inj (hlen p.1 (List.mem_map.2 ⟨p, hp, rfl⟩)) (hlen q.1 (List.mem_map.2 ⟨q, hq, rfl⟩)) h
  obtain ⟨r, hrm, rfl⟩ := List.mem_map.1 hp
  obtain ⟨r', hrm', rfl⟩ := List.mem_map.1 hq
  refine keysB_inj (fun x hx => hok r hrm x (valTo_mem (Nat.le_refl _) hx)) (fun x hx => hok r' hrm' x (valTo_mem (Nat.le_refl _) hx)) ?_ h1
  show (valTo r.2.2 s r.2.2.length).length = (valTo r'.2.2 s r'.2.2.length).length
  rw [hr r hrm, hr r' hrm']
  exact valTo_same _ _ _ _
theorem lB_length (rs : List Row3) (s : S) : (lB rs s).length = rs.length := by unfold lB; rw [List.length_map]
theorem lB_at {rs : List Row3} {k : Nat} {r : Row3} (h : rs[k]? = some r) (s : S) : (lB rs s)[k]? = some (mkKS (kyB r.2.2 (memN s 32)), r.1) := by unfold lB; rw [List.getElem?_map, h]; rfl
theorem bigG_of {rs : List Row3} {s : S} (h : grpOf (lB rs s) = grpOf (lK rs s)) : ((grpOf (lB rs s)).filter fun g => decide (2 ≤ g.length)) = bigG (lK rs s) := by rw [h]; rfl

end Go.Proofs.YtalejolehccclaaGreatDoor


/- The walks of slices.IndexFunc and slices.DeleteFunc over groups of the call's own, at keymine's test. -/
namespace Go.Proofs.YtalejolehccclaaGreatDoor
open Go.RowKit
set_option linter.unusedVariables false

theorem own_sliceG {w : World} {B n : Nat} {e : TypeId} {v : Value} {xs : List Value} (h : w.ownsRow B e 1 v n xs) : ∃ ao cap, v = .slice ao n cap := by
  rcases h.2 with ⟨h1, h2⟩ | ⟨g', cap', cur, hv, _⟩
  · exact ⟨none, 0, by rw [h1, h2]⟩
  · exact ⟨_, cap', hv⟩
theorem undGr : Tryz.prog.underlying 150 = some (.slice 206) := by kernel_rfl
theorem undG64 : Tryz.prog.underlying 206 = some (.slice 2) := by kernel_rfl
theorem infoGr : (Tryz.prog.info? 206).map (fun i => (i.zero, i.size, i.bytes)) = some (some (.slice none 0 0), 1, 24) := by kernel_rfl
theorem info64 : (Tryz.prog.info? 2).map (fun i => (i.zero, i.size, i.bytes)) = some (some (.int .i64 0), 1, 8) := by kernel_rfl
theorem dup1_any (ao : Option Addr) (n cap : Nat) (w : World) :
    Calls Tryz.prog 145 #[.slice ao n cap] w fun e w' => e = .returned (.bool (decide ((n : Int) < 2))) ∧ w = w' := by
  go_enter Tryz.func145, Tryz.ntmps145
  go_wp2
  go_ret
  exact ⟨rfl, rfl⟩
def smallG (g : Gp) : Bool := decide ((g.2.length : Int) < 2)
def bigs (gs : List Gp) : List Gp := gs.filter fun g => !smallG g
def IdxPostG (xs : List Gp) (w : World) (e : Ending) (w' : World) : Prop :=
  w = w' ∧ ((e = .returned (.int .i64 (-1)) ∧ xs.any smallG = false) ∨ ∃ k, k < xs.length ∧ e = .returned (.int .i64 (k : Int)) ∧ (xs.take k).any smallG = false ∧ ∀ x, xs[k]? = some x → smallG x = true)
theorem none_nextG {xs : List Gp} {k : Nat} {x : Gp} (hx : xs[k]? = some x) (hp : smallG x = false) (h : (xs.take k).any smallG = false) : (xs.take (k + 1)).any smallG = false := by
  rw [take_next hx, List.any_append, h]; simp [hp]
theorem indexG_any (xs : List Gp) (v : Value) (w : World) (hv : RdE Prod.fst w v xs) (hx : ∀ g ∈ xs, ∃ ao cap, g.1 = .slice ao g.2.length cap) :
    Calls Tryz.prog 191 #[v, .func (.func 145) #[] #[]] w (IdxPostG xs w) := by
  obtain ⟨ao, cap, rfl, h2, hc⟩ := hv.split
  have HC := hid hc
  have HX := hid hx
  have eg := enters _ _ _ Tryz.func145 (by kernel_rfl) rfl
  clear hc hv hx
  go_enter Tryz.func191, Tryz.ntmps191
  go_wp2
  go_loopw [5, 8] (fun _ i wr => ∃ k : Nat, k ≤ xs.length ∧ i = .int .i64 k ∧ Hid ((xs.take k).any smallG = false) ∧ w = wr) (fun _ i _ => xs.length - (intOf i).toNat)
  case atStart => exact ⟨0, Nat.zero_le _, rfl, hid rfl, rfl⟩
  case round =>
    obtain ⟨k, hk, rfl, H, rfl⟩ := hrel
    by_cases hlt : k < xs.length
    · obtain ⟨x, hx⟩ := get_some hlt
      obtain ⟨b, off, rfl, hd⟩ := HC.out k x hx
      have e1 := hd w (Below.refl _ _)
      obtain ⟨xo, xcap, hxe⟩ := HX.out x (List.mem_of_getElem? hx)
      rw [hxe] at e1
      have X := hid hx
      have G1 := dup1_any xo x.2.length xcap w
      clear hd hx hxe
      cases hp : smallG x with
      | true =>
        rw [show decide ((x.2.length : Int) < 2) = true from hp] at G1
        have G2 := hid G1
        have P1 := hid hp
        clear hp G1
        go_wp2_with fail
        refine G2.out.mono ?_
        rintro e w2 ⟨rfl, rfl⟩
        go_wp2_with fail
        go_ret
        exact ⟨rfl, .inr ⟨k, hlt, rfl, H.out, fun y hy => by rw [X.out] at hy; cases hy; exact P1.out⟩⟩
      | false =>
        rw [show decide ((x.2.length : Int) < 2) = false from hp] at G1
        have G2 := hid G1
        have P1 := hid hp
        clear hp G1
        go_wp2_with fail
        refine G2.out.mono ?_
        rintro e w2 ⟨rfl, rfl⟩
        go_wp2_with fail
        go_roundw
        case rel => exact ⟨k + 1, by omega, by go_num, hid (none_nextG X.out P1.out H.out), by first | rfl | trivial⟩
        case measure => simp [intOf]; omega
    · have HE : xs.any smallG = false := by have h := H.out; rwa [List.take_of_length_le (by omega)] at h
      go_wp2
      go_ret
      exact ⟨rfl, .inl ⟨rfl, HE⟩⟩

/-- The row while DeleteFunc is at its work. -/
structure DelR (xs : List Gp) (i j : Nat) (dk : List Gp) : Prop where
  size : dk.length = xs.length
  lt : i < j
  low : dk.take i = (xs.take j).filter (fun x => !smallG x)
  high : ∀ t, j ≤ t → dk[t]? = xs[t]?
theorem none_filterG {xs : List Gp} (h : xs.any smallG = false) : xs.filter (fun x => !smallG x) = xs := by
  rw [List.filter_eq_self]
  intro x hx
  rw [List.any_eq_false] at h
  simp [h x hx]
theorem DelR.start {xs : List Gp} {k : Nat} {x : Gp} (hx : xs[k]? = some x) (h : (xs.take k).any smallG = false) (hp : smallG x = true) : DelR xs k (k + 1) xs :=
  ⟨rfl, by omega, by rw [take_next hx, List.filter_append, none_filterG h]; simp [hp], fun _ _ => rfl⟩
theorem DelR.keep {xs dk : List Gp} {i j : Nat} {x : Gp} (h : DelR xs i j dk) (hx : xs[j]? = some x) (hp : smallG x = false) : DelR xs (i + 1) (j + 1) (dk.set i x) := by
  have hj := (List.getElem?_eq_some_iff.1 hx).1
  have hi : i < dk.length := by have := h.size; have := h.lt; omega
  refine ⟨by rw [List.length_set]; exact h.size, by have := h.lt; omega, ?_, fun t ht => ?_⟩
  · rw [take_next hx, List.filter_append, ← h.low, take_next (x := x) (by rw [List.getElem?_set_self hi]), List.take_set_of_le (Nat.le_refl _)]
    simp [hp]
  · rw [List.getElem?_set_ne (by have := h.lt; omega)]
    exact h.high t (by omega)
theorem DelR.skip {xs dk : List Gp} {i j : Nat} {x : Gp} (h : DelR xs i j dk) (hx : xs[j]? = some x) (hp : smallG x = true) : DelR xs i (j + 1) dk :=
  ⟨h.size, by have := h.lt; omega, by rw [take_next hx, List.filter_append, ← h.low]; simp [hp], fun t ht => h.high t (by omega)⟩
theorem own_setCells_other {w : World} {B g : Nat} {e : TypeId} {n : Nat} {u : Value} {ys : List Value} (hne : u.ownBlock ≠ some g) : ∀ (vs : List Value) (o : Nat) (w : World), w.ownsRow B e 1 u n ys → (w.setCells g o vs).ownsRow B e 1 u n ys := by
  intro vs
  induction vs with
  | nil => intro o w h; exact h
  | cons x vs ih => intro o w h; exact ih (o + 1) _ (ownsRow_setCell_other h hne _)

set_option maxHeartbeats 1600000 in
theorem deleteG_any (B : Nat) (xs : List Gp) (v : Value) (w w0 : World) (hb : Below w0.heap.size w0 w) (hB : w0.heap.size ≤ B) (ho : OwnGr w B 206 2 v xs) (hl : xs.length ≤ 100000) (hl2 : ∀ g ∈ xs, g.2.length ≤ 100000) :
    Calls Tryz.prog 144 #[v, .func (.func 145) #[] #[]] w fun e w' => ∃ v', e = .returned v' ∧ RdG w' v' (bigs xs) ∧ Below w0.heap.size w0 w' := by
  have hx : ∀ g ∈ xs, ∃ ao cap, g.1 = .slice ao g.2.length cap := fun g hg => own_sliceG (ho.inner g hg)
  have IX := hid (indexG_any xs v w (RdE.of_owns ho.outer (by omega)) hx)
  have eg := enters _ _ _ Tryz.func145 (by kernel_rfl) rfl
  have HB := hid hb
  have hs0 := hb.size
  have HX := hid hx
  have HL2 := hid hl2
  have HRD := hid (ho.rd hl hl2)
  obtain ⟨hown, hinn, -, haway⟩ := ho
  have HO := hid hown
  have HI := hid hinn
  have HAW := hid haway
  obtain ⟨ao, cap, rfl, -⟩ := (RdE.of_owns hown (by omega)).split
  clear hb hown hx hl2 hinn haway
  go_enter Tryz.func144, Tryz.ntmps144
  go_wp2_with fail
  refine IX.out.mono ?_
  rintro e w1 ⟨rfl, ⟨rfl, hnone⟩ | ⟨k0, hk0, rfl, hfirst, hhit⟩⟩
  · have NF := hid (show bigs xs = xs from none_filterG hnone)
    clear hnone
    go_wp2_with fail
    go_ret
    exact ⟨_, rfl, by rw [NF.out]; exact HRD.out, HB.out⟩
  · obtain ⟨x0, hx0⟩ := get_some hk0
    have D0 := hid (DelR.start hx0 hfirst (hhit x0 hx0))
    obtain ⟨gb, gcap, hform⟩ : ∃ gb gcap, Value.slice ao xs.length cap = .slice (some ⟨gb, 0, none⟩) xs.length gcap := by
      rcases HO.out.2 with ⟨h1, h2⟩ | ⟨g', cap', cur, hv, _⟩
      · omega
      · exact ⟨g', cap', hv⟩
    simp only [Value.slice.injEq] at hform
    obtain ⟨rfl, -, rfl⟩ := hform
    have hkne : ((k0 : Int) == -1) = false := beq_eq_false_iff_ne.2 (by omega)
    have hgb := HO.out.lt gb rfl
    have hcapn : xs.length ≤ cap := by
      rcases HO.out.2 with ⟨h1, _⟩ | ⟨g', cap', cur, hv, _, _, hnc, _⟩
      · cases h1
      · simp only [Value.slice.injEq] at hv; omega
    have AW := hid (fun (g : Gp) (hg : g ∈ xs) => show g.1.ownBlock ≠ some gb from fun e => by
      rcases HAW.out g hg with h | h
      · rw [h] at e; cases e
      · exact h e)
    clear hfirst hhit hx0
    have k00 : (0 : Int) ≤ (k0 : Int) := by omega
    go_wp2_with fail
    go_loopw [5, 6] (fun i j wr => ∃ (a b : Nat) (dk : List Gp), b ≤ xs.length ∧ i = .int .i64 a ∧ j = .int .i64 b ∧ Hid (DelR xs a b dk) ∧ wr.ownsRow B 206 1 (.slice (some ⟨gb, 0, none⟩) xs.length cap) xs.length (dk.map Prod.fst) ∧ (∀ g ∈ xs, wr.ownsRow B 2 1 g.1 g.2.length (g.2.map encJ)) ∧ Below w0.heap.size w0 wr) (fun _ j _ => xs.length - (intOf j).toNat)
    case atStart => exact ⟨k0, k0 + 1, xs, by omega, rfl, by go_num, D0, HO.out, HI.out, HB.out⟩
    case round =>
      obtain ⟨a, b, dk, hbl, rfl, rfl, D, hown, hinn, hnx⟩ := hrel
      have hsz := hnx.size
      have hab := D.out.lt
      have hdl := D.out.size
      have b0 : (0 : Int) ≤ (b : Int) := by omega
      have a0 : (0 : Int) ≤ (a : Int) := by omega
      by_cases hlt : b < xs.length
      · obtain ⟨x, hx⟩ := get_some hlt
        have hxd : dk[b]? = some x := by rw [D.out.high b (Nat.le_refl _), hx]
        obtain ⟨xo, xcap, hxe⟩ := HX.out x (List.mem_of_getElem? hx)
        have e1 : wr.cell? ⟨gb, b, none⟩ = some (.slice xo x.2.length xcap) := by
          rw [hown.cellAt b (by omega), List.getElem?_map, hxd, ← hxe]; rfl
        have G1 := dup1_any xo x.2.length xcap wr
        have HO2 := hid hown
        have HI2 := hid hinn
        have NX := hid hnx
        have HXE := hid hxe
        cases hp : smallG x with
        | true =>
          rw [show decide ((x.2.length : Int) < 2) = true from hp] at G1
          have G2 := hid G1
          have D2 := hid (D.out.skip hx hp)
          clear hp hown hnx hx hxd hinn G1 hxe
          go_wp2_with fail
          refine G2.out.mono ?_
          rintro e w2 ⟨rfl, rfl⟩
          go_wp2_with fail
          go_roundw
          case rel => exact ⟨a, b + 1, dk, by omega, rfl, by go_num, D2, HO2.out, HI2.out, NX.out⟩
          case measure => simp [intOf]; omega
        | false =>
          rw [show decide ((x.2.length : Int) < 2) = false from hp] at G1
          have G2 := hid G1
          have D2 := hid (D.out.keep hx hp)
          obtain ⟨y, hy⟩ := get_some (show a < dk.length by omega)
          have hcell : wr.cell? ⟨gb, a, none⟩ = some y.1 := by rw [hown.cellAt a (by omega), List.getElem?_map, hy]; rfl
          have hfz : wr.frozen? ⟨gb, a, none⟩ = false := hown.frozenAt _
          clear hp hown hnx hx hxd hy hinn G1 hxe
          go_wp2_with fail
          refine G2.out.mono ?_
          rintro e w2 ⟨rfl, rfl⟩
          go_wp2_with fail
          have ST := HO2.out.stored a (.slice xo x.2.length xcap)
          have S1 := hid (show (wr.setCell ⟨gb, a, none⟩ (.slice xo x.2.length xcap)).ownsRow B 206 1 (.slice (some ⟨gb, 0, none⟩) xs.length cap) xs.length ((dk.set a x).map Prod.fst) by rw [List.map_set, HXE.out]; exact ST.1)
          have S2 := hid (NX.out.grown ST.2 NX.out.size (fun j hj => by cases hj; exact Nat.le_trans hB hgb.1))
          have S3 := hid (fun (g : Gp) (hg : g ∈ xs) => show (wr.setCell ⟨gb, a, none⟩ (.slice xo x.2.length xcap)).ownsRow B 2 1 g.1 g.2.length (g.2.map encJ) from ownsRow_setCell_other (HI2.out g hg) (AW.out g hg) _)
          clear ST hcell hfz
          go_roundw
          case rel => exact ⟨a + 1, b + 1, dk.set a x, by omega, by go_num, by go_num, D2, S1.out, S3.out, S2.out⟩
          case measure => simp [intOf]; omega
      · have hbn : b = xs.length := by omega
        have han : a < xs.length := by omega
        have hlow := D.out.low
        rw [hbn, List.take_of_length_le (Nat.le_refl _)] at hlow
        have hfl : (xs.filter (fun x => !smallG x)).length = a := by rw [← hlow, List.length_take]; omega
        have hcl : ∀ ty, (Builtin.clear_ #[150] ty #[.slice (some ⟨gb, a, none⟩) (xs.length - a) (cap - a)]).run Tryz.prog wr = .ok (.tuple #[]) (wr.setCells gb a (List.replicate (xs.length - a) (.slice none 0 0))) := fun ty => Lib.run_clear_slice wr _ _ ty _ undGr (fun w => Tryz.zeroValue206 w) rfl rfl gb a _ _ (by omega)
          (fun t ht => by
            obtain ⟨y, hy⟩ := get_some (show a + t < dk.length by omega)
            rw [hown.cellAt (a + t) (by omega), List.getElem?_map, hy]; rfl)
          (fun t _ => hown.frozenAt _)
        obtain ⟨xs', h1, h2⟩ := own_setCells (List.replicate (xs.length - a) (.slice none 0 0)) a wr _ hown
        have h3 := own_take h1 (k := a) (by omega)
        have FIN : (wr.setCells gb a (List.replicate (xs.length - a) (.slice none 0 0))).ownsRow B 206 1 (.slice (some ⟨gb, 0, none⟩) a cap) (bigs xs).length ((bigs xs).map Prod.fst) := by
          rw [h2, ← List.map_take, hlow] at h3
          show (wr.setCells gb a (List.replicate (xs.length - a) (.slice none 0 0))).ownsRow B 206 1 (.slice (some ⟨gb, 0, none⟩) a cap) (xs.filter (fun x => !smallG x)).length ((xs.filter (fun x => !smallG x)).map Prod.fst)
          rw [hfl]; exact h3
        have RG := hid (show RdG (wr.setCells gb a (List.replicate (xs.length - a) (.slice none 0 0))) (.slice (some ⟨gb, 0, none⟩) a cap) (bigs xs) from
          ⟨RdE.of_owns FIN (by have : (bigs xs).length ≤ xs.length := List.length_filter_le _ _; omega), fun g hg => RdE.of_owns (own_setCells_other (w := wr) (AW.out g (List.mem_filter.1 hg).1) _ _ _ (hinn g (List.mem_filter.1 hg).1)) (by have := HL2.out g (List.mem_filter.1 hg).1; omega)⟩)
        have BF := hid (below_cells gb (Nat.le_trans hB hgb.1) (List.replicate (xs.length - a) (.slice none 0 0)) a hnx)
        have D3 := hid D.out
        clear hlow hfl h1 h2 h3 hown hnx D hbn hdl hinn FIN
        go_wp2_with fail
        go_ret
        exact ⟨_, rfl, RG.out, BF.out⟩

end Go.Proofs.YtalejolehccclaaGreatDoor


/- The walks of value.number and value.Key. -/
namespace Go.Proofs.YtalejolehccclaaGreatDoor
open Go.RowKit
set_option linter.unusedVariables false

def encB (b : UInt8) : Value := .int .u8 (b.toNat : Int)
theorem infoByte : (Tryz.prog.info? 5).map (fun i => (i.zero, i.size, i.bytes)) = some (some (.int .u8 0), 1, 1) := by kernel_rfl
theorem undBytes : Tryz.prog.underlying 146 = some (.slice 5) := by kernel_rfl
theorem xor_top {b : Nat} (h : b < 2 ^ 63) : b ^^^ 2 ^ 63 = b + 2 ^ 63 := by
  apply Nat.eq_of_testBit_eq
  intro i
  rw [Nat.testBit_xor, Nat.testBit_two_pow, Nat.add_comm b]
  rcases Nat.lt_trichotomy i 63 with hlt | rfl | hgt
  · rw [Nat.testBit_two_pow_add_gt hlt]
    simp [show ¬ 63 = i by omega]
  · rw [Nat.testBit_two_pow_add_eq]; simp
  · have h1 : b.testBit i = false := Nat.testBit_lt_two_pow (Nat.lt_of_lt_of_le h (Nat.pow_le_pow_right (by decide) (by omega)))
    have h2 : (2 ^ 63 + b).testBit i = false := Nat.testBit_lt_two_pow (Nat.lt_of_lt_of_le (show 2 ^ 63 + b < 2 ^ 64 by omega) (Nat.pow_le_pow_right (by decide) (by omega)))
    rw [h1, h2]; simp [show ¬ 63 = i by omega]
theorem key_bits {n : Int} (h0 : -9223372036854775808 ≤ n) (h1 : n < 9223372036854775808) : bits .xor .u64 (IntKind.u64.wrap n) 9223372036854775808 = (numU n : Int) := by
  show IntKind.u64.wrap ((BitVec.ofInt 64 (IntKind.u64.wrap n) ^^^ BitVec.ofInt 64 9223372036854775808).toNat : Int) = _
  rw [BitVec.toNat_xor]
  have e2 : (BitVec.ofInt 64 9223372036854775808).toNat = 2 ^ 63 := by decide
  rw [e2]
  by_cases hn : 0 ≤ n
  · have e1 : (BitVec.ofInt 64 (IntKind.u64.wrap n)).toNat = n.toNat := by
      rw [IntKind.wrap_u64, BitVec.toNat_ofInt]; omega
    rw [e1, xor_top (by omega)]
    unfold numU
    rw [IntKind.wrap_u64]; omega
  · have e1 : (BitVec.ofInt 64 (IntKind.u64.wrap n)).toNat = (n + 9223372036854775808).toNat + 2 ^ 63 := by
      rw [IntKind.wrap_u64, BitVec.toNat_ofInt]; omega
    rw [e1, ← xor_top (by omega), Nat.xor_assoc, Nat.xor_self, Nat.xor_zero]
    unfold numU
    rw [IntKind.wrap_u64]; omega
theorem numB_take (n : Int) : ∀ m, m < 8 → (numB n).take (m + 1) = (numB n).take m ++ [byteU (numU n) (7 - m)] := by
  intro m hm
  rcases (show m = 0 ∨ m = 1 ∨ m = 2 ∨ m = 3 ∨ m = 4 ∨ m = 5 ∨ m = 6 ∨ m = 7 by omega) with rfl | rfl | rfl | rfl | rfl | rfl | rfl | rfl <;> rfl

set_option maxHeartbeats 1600000 in
set_option maxRecDepth 100000 in
theorem number_any (n : Int) (h0 : -9223372036854775808 ≤ n) (h1 : n < 9223372036854775808) (out : List UInt8) (v : Value) (B : Nat) (w : World) (hown : w.ownsRow B 5 1 v out.length (out.map encB)) (hB : B ≤ w.heap.size) (hl : out.length ≤ 1000) :
    Calls Tryz.prog 190 #[v, .int .i64 n] w fun e w' => ∃ v', e = .returned v' ∧ w'.ownsRow B 5 1 v' (out ++ numB n).length ((out ++ numB n).map encB) ∧ Below B w w' := by
  have KB := hid (key_bits h0 h1)
  have NT := hid (numB_take n)
  have U64 := hid (show numU n < 18446744073709551616 by unfold numU; omega)
  have NL := hid (show (numB n).length = 8 from rfl)
  generalize numB n = nb at *
  generalize numU n = U at *
  obtain ⟨vo, vcap, hv⟩ : ∃ vo vcap, v = .slice vo out.length vcap := by
    rcases hown.2 with ⟨e, h⟩ | ⟨g, cap, cur, e, _⟩
    · exact ⟨none, 0, by rw [e, h]⟩
    · exact ⟨_, cap, e⟩
  subst hv
  have OW0 := hid hown
  clear hown
  go_enter Tryz.func190, Tryz.ntmps190
  go_wp2_with fail
  rw [KB.out]
  go_loopw [0, 6] (fun u s wr => ∃ m : Nat, m ≤ 8 ∧ s = .int .i64 (56 - 8 * (m : Int)) ∧ wr.ownsRow B 5 1 u (out ++ nb.take m).length ((out ++ nb.take m).map encB) ∧ Below B w wr) (fun _ s _ => (intOf s + 8).toNat)
  case atStart => exact ⟨0, by omega, rfl, by simpa using OW0.out, Below.refl _ _⟩
  case round =>
    obtain ⟨m, hm, rfl, hown, hnx⟩ := hrel
    have hsz := hnx.size
    have hol : (out ++ nb.take m).length ≤ 1008 := by rw [List.length_append, List.length_take, NL.out]; omega
    have HOL := hid hol
    have OW := hid hown
    have NX := hid hnx
    clear hol hown hnx
    by_cases h8 : m = 8
    · subst h8
      have e8 : (56 : Int) - 8 * ((8 : Nat) : Int) = -8 := by omega
      rw [e8]
      have OF := hid (show wr.ownsRow B 5 1 u0 (out ++ nb).length ((out ++ nb).map encB) by have h := OW.out; rwa [List.take_of_length_le (by rw [NL.out]; exact Nat.le_refl _)] at h)
      go_wp2_with fail
      go_ret
      exact ⟨_, rfl, OF.out, NX.out⟩
    · have TK := hid (NT.out m (by omega))
      have e8 : (56 : Int) - 8 * (m : Int) = ((56 - 8 * m : Nat) : Int) := by omega
      have e9 : ((56 - 8 * m : Nat) : Int) - 8 = 56 - 8 * ((m + 1 : Nat) : Int) := by omega
      have s0 : (0 : Int) ≤ ((56 - 8 * m : Nat) : Int) := by omega
      rw [e8]
      have HTK := hid (show out ++ nb.take (m + 1) = (out ++ nb.take m) ++ [byteU U (7 - m)] by rw [TK.out, List.append_assoc])
      have hb : (U : Int) / 2 ^ (56 - 8 * m) % 256 = ((byteU U (7 - m)).toNat : Int) := by
        rw [byteU_nat, show 56 - 8 * m = 8 * (7 - m) by omega, Int.pow_mul]
        simp
      have HBY := hid hb
      have m7 : m ≤ 7 := by omega
      clear hb
      generalize out ++ nb.take m = cur at *
      go_wp2_with (at_builtin; refine wpList_pushE rfl _ _ 146 rfl B 5 (.int .u8 0) 1 undBytes infoByte rfl (by decide) encB _ cur rfl (OW.out.alloc _) ⟨wr.heap.size, 0, none⟩ (byteU U (7 - m)) rfl rfl ?_ (by have := HOL.out; omega) (by simp; omega) ?_)
      · rw [HBY.out]; exact cell_new
      · intro v' w1 hown' hgrow _
        have hb1 := below_push NX.out (Nat.le_trans hB hsz) OW.out hgrow
        have ho1 : w1.ownsRow B 5 1 v' (out ++ nb.take (m + 1)).length ((out ++ nb.take (m + 1)).map encB) := by rw [HTK.out]; simpa using hown'
        have HO1 := hid ho1
        have HB1 := hid hb1
        clear ho1 hb1 hown' hgrow
        go_wp2_with fail
        go_roundw
        case rel => exact ⟨m + 1, by omega, by go_num, HO1.out, HB1.out⟩
        case measure => simp [intOf]; omega

theorem chsB_snoc (s : List UInt8) (c : UInt8) : chsB (s ++ [c]) = chsB s ++ chB c := by unfold chsB; rw [List.flatMap_append]; simp
theorem chsB_length (s : List UInt8) : (chsB s).length ≤ 2 * s.length := by
  induction s with
  | nil => simp [chsB]
  | cons c s ih =>
    rw [chsB_cons, List.length_append, List.length_cons]
    have : (chB c).length ≤ 2 := by unfold chB; split <;> simp
    omega
theorem lit1 (w : World) (b : UInt8) : (w.alloc (.cells #[encB b] 5)).ownsRow w.heap.size 5 1 (.slice (some ⟨w.heap.size, 0, none⟩) 1 1) [b].length ([b].map encB) :=
  World.ownsRow_lit w _ 1 (Nat.le_refl _) (by decide) rfl

theorem own_formK {w : World} {B : Nat} {e : TypeId} {size n : Nat} {v : Value} {xs : List Value} (h : w.ownsRow B e size v n xs) (hn : 0 < n) : ∃ g cap, v = .slice (some ⟨g, 0, none⟩) n cap := by
  rcases h.2 with ⟨_, h0⟩ | ⟨g, cap, cur, rfl, _⟩
  · omega
  · exact ⟨g, cap, rfl⟩
theorem conv_any {w : World} {B g cap : Nat} {l : List UInt8} (h : w.ownsRow B 5 1 (.slice (some ⟨g, 0, none⟩) l.length cap) l.length (l.map encB)) :
    (convert 146 9 (.slice (some ⟨g, 0, none⟩) l.length cap)).run Tryz.prog w = .ok (.string ⟨l.toArray⟩) w := by
  refine run_convert_bytes_back w 146 9 5 ⟨g, 0, none⟩ cap l undBytes Tryz.underlying5 Tryz.underlying9 fun j hj => ?_
  have := h.cellAt j (by omega)
  rw [Addr.add_lit, Nat.zero_add, this, List.getElem?_map, List.getElem?_eq_getElem hj]; rfl
set_option maxHeartbeats 3200000 in
set_option maxRecDepth 100000 in
theorem key_any (x : V3) (hx : okV x) (w : World) :
    Calls Tryz.prog 143 #[.agg #[.int .i64 x.1, .int .i64 x.2.1, .string x.2.2]] w fun e w' => e = .returned (.tuple #[.string ⟨(keyB x).toArray⟩, .int .i64 0]) ∧ Below w.heap.size w w' := by
  obtain ⟨hv, hr0, hr1⟩ := hx
  have hk := valid_kind hv
  have KB := hid (show keyB x = UInt8.ofNat x.1.toNat :: (if x.1 = 1 ∨ x.1 = 3 then numB x.2.1 else if x.1 = 2 then txtB x.2.2.toList else []) from rfl)
  have VA := hid (fun (W : World) => value_valid x W)
  rw [hv] at VA
  have NU := hid (fun (out : List UInt8) (v : Value) (B : Nat) (W : World) (ho : W.ownsRow B 5 1 v out.length (out.map encB)) (hB : B ≤ W.heap.size) (hl : out.length ≤ 1000) => number_any x.2.1 hr0 hr1 out v B W ho hB hl)
  obtain ⟨R, hR⟩ : ∃ R, keyB x = R := ⟨_, rfl⟩
  rw [hR]
  rw [hR] at KB
  clear hR
  obtain ⟨kd, nm, st⟩ := x
  simp only at hk KB VA NU
  have hb0 := below_alloc w (.cells #[.int .i64 kd, .int .i64 nm, .string st] 89)
  have C3 := hid (fun W h => cells3 (w := w) (a := .int .i64 kd) (b := .int .i64 nm) (c := .string st) (t := 89) W h)
  obtain ⟨w0, hw0⟩ : ∃ w0 : World, w.alloc (.cells #[.int .i64 kd, .int .i64 nm, .string st] 89) = w0 := ⟨_, rfl⟩
  rw [hw0] at hb0 C3
  have B0 := hid hb0
  have W0 := hid hw0
  have hsz0 := hb0.size
  obtain ⟨t00, t01, t02⟩ := C3.out _ (Below.refl _ _)
  have D0 := hid (Below.refl w0.heap.size w0)
  clear hb0 hw0 hv hr0 hr1
  rcases hk with ⟨rfl, rfl, k3⟩ | ⟨rfl, k3⟩ | ⟨rfl, rfl, k3⟩ | ⟨rfl, k3⟩
  · rw [if_neg (by decide), if_neg (by decide)] at KB
    clear NU
    go_enter Tryz.func143, Tryz.ntmps143
    go_wp2_with fail
    rw [W0.out]
    go_wp2_with fail
    refine (VA.out _).mono ?_
    rintro e w1 ⟨rfl, hb1⟩
    have D1 := hid hb1
    obtain ⟨t10, t11, t12⟩ := C3.out _ hb1
    have LT := hid (show (w1.alloc (.cells #[.int .u8 0] 5)).ownsRow w1.heap.size 5 1 (.slice (some ⟨w1.heap.size, 0, none⟩) 1 1) [UInt8.ofNat 0].length ([UInt8.ofNat 0].map encB) from lit1 w1 (UInt8.ofNat 0))
    have n1 := below_alloc w1 (.cells #[.int .u8 0] 5)
    obtain ⟨y0, y1, y2⟩ := C3.out _ (D1.out.trans (n1.mono D1.out.size))
    have CV := conv_any LT.out
    have BF := hid (B0.out.trans ((D1.out.trans (n1.mono D1.out.size)).mono hsz0))
    have KE := hid (show R = [UInt8.ofNat 0] from KB.out)
    simp only [List.length_singleton] at CV
    clear hb1 n1
    go_wp2_with fail
    go_ret2
    exact ⟨by rw [KE.out]; rfl, BF.out⟩
  · rw [if_pos (by decide)] at KB
    go_enter Tryz.func143, Tryz.ntmps143
    go_wp2_with fail
    rw [W0.out]
    go_wp2_with fail
    refine (VA.out _).mono ?_
    rintro e w1 ⟨rfl, hb1⟩
    have D1 := hid hb1
    obtain ⟨t10, t11, t12⟩ := C3.out _ hb1
    have LT := hid (show (w1.alloc (.cells #[.int .u8 1] 5)).ownsRow w1.heap.size 5 1 (.slice (some ⟨w1.heap.size, 0, none⟩) 1 1) [UInt8.ofNat 1].length ([UInt8.ofNat 1].map encB) from lit1 w1 (UInt8.ofNat 1))
    have n1 := below_alloc w1 (.cells #[.int .u8 1] 5)
    obtain ⟨y0, y1, y2⟩ := C3.out _ (D1.out.trans (n1.mono D1.out.size))
    have D2 := hid (D1.out.trans (n1.mono D1.out.size))
    have hs1 : w1.heap.size ≤ (w1.alloc (.cells #[.int .u8 1] 5)).heap.size := n1.size
    have NC := hid (NU.out [UInt8.ofNat 1] _ w1.heap.size _ LT.out hs1 (by simp))
    have HS1 := hid hs1
    clear hb1 n1 hs1
    go_wp2_with fail
    refine NC.out.mono ?_
    rintro e w2 ⟨v2, rfl, ho2, hb2⟩
    obtain ⟨g, cap, hv2⟩ := own_formK ho2 (by simp)
    subst hv2
    have CV := conv_any ho2
    have BF := hid (B0.out.trans ((D1.out.trans ((((Below.refl _ w1).alloc (Nat.le_refl _) _).trans hb2).mono D1.out.size)).mono hsz0))
    have KE := hid (show R = [UInt8.ofNat 1] ++ numB nm by rw [KB.out]; rfl)
    rw [← KE.out] at CV ⊢
    clear ho2 hb2
    go_wp2_with fail
    go_ret2
    exact ⟨rfl, BF.out⟩
  · rw [if_neg (by decide), if_pos rfl] at KB
    clear NU
    have KE := hid (show R = ([UInt8.ofNat 2] ++ chsB st.toList) ++ [0, 1] by rw [KB.out]; rfl)
    have hst : st.toList.length = st.size := by rw [ByteArray.toList_eq]; simp
    have HST := hid hst
    have GET := hid (fun (k : Nat) (h : k < st.size) => show st.toList[k]? = some (st[k]'h) by rw [ByteArray.toList_eq, Array.getElem?_toList]; exact Array.getElem?_eq_getElem h)
    clear hst KB
    go_enter Tryz.func143, Tryz.ntmps143
    go_wp2_with fail
    rw [W0.out]
    go_wp2_with fail
    refine (VA.out _).mono ?_
    rintro e w1 ⟨rfl, hb1⟩
    have D1 := hid hb1
    obtain ⟨t10, t11, t12⟩ := C3.out _ hb1
    have LT := hid (show (w1.alloc (.cells #[.int .u8 2] 5)).ownsRow w1.heap.size 5 1 (.slice (some ⟨w1.heap.size, 0, none⟩) 1 1) [UInt8.ofNat 2].length ([UInt8.ofNat 2].map encB) from lit1 w1 (UInt8.ofNat 2))
    have n1 := below_alloc w1 (.cells #[.int .u8 2] 5)
    obtain ⟨y0, y1, y2⟩ := C3.out _ (D1.out.trans (n1.mono D1.out.size))
    have N1 := hid n1
    clear hb1 n1
    go_wp2_with fail
    go_loopw [4, 27] (fun u i wr => ∃ k : Nat, k ≤ st.size ∧ i = .int .i64 k ∧ wr.ownsRow w1.heap.size 5 1 u ([UInt8.ofNat 2] ++ chsB (st.toList.take k)).length (([UInt8.ofNat 2] ++ chsB (st.toList.take k)).map encB) ∧ Below w1.heap.size w1 wr) (fun _ i _ => st.size - (intOf i).toNat)
    case atStart => exact ⟨0, Nat.zero_le _, rfl, by simpa [chsB] using LT.out, N1.out⟩
    case round =>
      obtain ⟨k, hk, rfl, hown, hnx⟩ := hrel
      have hsz := hnx.size
      have k0 : (0 : Int) ≤ (k : Int) := by omega
      have hol : ([UInt8.ofNat 2] ++ chsB (st.toList.take k)).length ≤ 401 := by
        have h1 := chsB_length (st.toList.take k)
        have h2 : (st.toList.take k).length ≤ k := List.length_take_le _ _
        rw [List.length_append, List.length_singleton]; omega
      have HOL := hid hol
      have OW := hid hown
      have NX := hid hnx
      obtain ⟨z0, z1, z2⟩ := C3.out _ (D1.out.trans (hnx.mono D1.out.size))
      by_cases hlt : k < st.size
      · have hg := GET.out k hlt
        obtain ⟨c, hc⟩ : ∃ c, st[k]'hlt = c := ⟨_, rfl⟩
        rw [hc] at hg
        have hcn : (st[k]'hlt).toNat = c.toNat := by rw [hc]
        have TN := hid (show [UInt8.ofNat 2] ++ chsB (st.toList.take (k + 1)) = ([UInt8.ofNat 2] ++ chsB (st.toList.take k)) ++ chB c by rw [take_next hg, chsB_snoc, List.append_assoc])
        have HLT := hid hlt
        clear hol hown hnx hg
        generalize [UInt8.ofNat 2] ++ chsB (st.toList.take k) = cur at *
        go_wp2_with (at_builtin; refine wpList_pushE rfl _ _ 146 rfl w1.heap.size 5 (.int .u8 0) 1 undBytes infoByte rfl (by decide) encB _ cur rfl (OW.out.alloc _) ⟨wr.heap.size, 0, none⟩ c rfl rfl (by first | exact cell_new | (rw [hcn]; exact cell_new)) (by have := HOL.out; omega) (by simp; omega) ?_)
        intro v4 w4 hown4 hg4 _
        have hb4 := below_push NX.out hsz OW.out hg4
        have ho4 : w4.ownsRow w1.heap.size 5 1 v4 (cur ++ [c]).length ((cur ++ [c]).map encB) := by simpa using hown4
        obtain ⟨x0, x1, x2⟩ := C3.out _ (D1.out.trans (hb4.mono D1.out.size))
        have O4 := hid ho4
        have B4 := hid hb4
        have hsz4 := hb4.size
        clear hown4 hg4 hb4 ho4 z0 z1 z2 t00 t01 t02 t10 t11 t12 y0 y1 y2
        by_cases hz : c = 0
        · have CH := hid (show chB c = [c] ++ [255] by rw [hz]; rfl)
          have hcz : ((c.toNat : Int) == 0) = true := by rw [hz]; rfl
          have H4L := hid (show (cur ++ [c]).length ≤ 402 by rw [List.length_append, List.length_singleton]; have := HOL.out; omega)
          have CC := hid (show cur ++ chB c = (cur ++ [c]) ++ [255] by rw [CH.out, List.append_assoc])
          generalize cur ++ [c] = cur2 at *
          go_wp2_with (at_builtin; refine wpList_pushE rfl _ _ 146 rfl w1.heap.size 5 (.int .u8 0) 1 undBytes infoByte rfl (by decide) encB _ cur2 rfl (O4.out.alloc _) ⟨w4.heap.size, 0, none⟩ 255 rfl rfl cell_new (by have := H4L.out; omega) (by simp; omega) ?_)
          intro v5 w5 hown5 hg5 _
          have hb5 := below_push B4.out hsz4 O4.out hg5
          have ho5 : w5.ownsRow w1.heap.size 5 1 v5 ([UInt8.ofNat 2] ++ chsB (st.toList.take (k + 1))).length (([UInt8.ofNat 2] ++ chsB (st.toList.take (k + 1))).map encB) := by rw [TN.out, CC.out]; simpa using hown5
          have O5 := hid ho5
          have B5 := hid hb5
          clear hown5 hg5 hb5 ho5
          go_wp2_with fail
          go_roundw
          case rel => exact ⟨k + 1, by have := HLT.out; omega, by go_num, O5.out, B5.out⟩
          case measure => have := HLT.out; simp [intOf]; omega
        · have hcz : ((c.toNat : Int) == 0) = false := by
            rw [beq_eq_false_iff_ne]
            intro e
            exact hz (UInt8.toNat_inj.1 (by have : c.toNat = 0 := by omega
                                            rw [this]; rfl))
          have O5 := hid (show w4.ownsRow w1.heap.size 5 1 v4 ([UInt8.ofNat 2] ++ chsB (st.toList.take (k + 1))).length (([UInt8.ofNat 2] ++ chsB (st.toList.take (k + 1))).map encB) by rw [TN.out, show chB c = [c] by unfold chB; rw [if_neg hz]]; exact O4.out)
          clear hz
          go_wp2_with fail
          go_roundw
          case rel => exact ⟨k + 1, by have := HLT.out; omega, by go_num, O5.out, B4.out⟩
          case measure => have := HLT.out; simp [intOf]; omega
      · have OF := hid (show wr.ownsRow w1.heap.size 5 1 u4 ([UInt8.ofNat 2] ++ chsB st.toList).length (([UInt8.ofNat 2] ++ chsB st.toList).map encB) by
          have h := OW.out
          rwa [List.take_of_length_le (show st.toList.length ≤ k by rw [HST.out]; omega)] at h)
        have HOL2 := hid (show ([UInt8.ofNat 2] ++ chsB st.toList).length ≤ 401 by
          have h := HOL.out
          rwa [List.take_of_length_le (show st.toList.length ≤ k by rw [HST.out]; omega)] at h)
        obtain ⟨i, hi, hz0, hz1, hz2⟩ := info_parts infoByte
        clear hol hown hnx OW HOL
        generalize [UInt8.ofNat 2] ++ chsB st.toList = cur at *
        go_wp2_with (at_builtin; refine wpList_append_own _ rfl _ _ 146 rfl w1.heap.size 5 i (.int .u8 0) 1 1 undBytes hi hz0 hz1 hz2 rfl (by decide) _ _ _ rfl (OF.out.alloc _) ⟨wr.heap.size, 0, none⟩ 2 2 [.int .u8 0, .int .u8 1] rfl rfl (by intro j u hj; match j, hj with | 0, hj => (simp at hj; subst hj; simp [Addr.add]) | 1, hj => (simp at hj; subst hj; simp [Addr.add])) (by intro u hu; simp at hu; rcases hu with rfl | rfl <;> rfl) (by have := HOL2.out; unfold maxLen; omega) (by have := HOL2.out; omega) (by simp; omega) ?_)
        intro v6 w6 hown6 hg6 _
        have hb6 := below_push NX.out hsz OF.out hg6
        have ho6 : w6.ownsRow w1.heap.size 5 1 v6 R.length (R.map encB) := by rw [KE.out]; simpa [encB] using hown6
        obtain ⟨g, cap, hv6⟩ := own_formK ho6 (by rw [KE.out]; simp)
        subst hv6
        have CV := conv_any ho6
        have BF := hid (B0.out.trans ((D1.out.trans (hb6.mono D1.out.size)).mono hsz0))
        clear hown6 hg6 hb6 ho6
        go_wp2_with fail
        go_ret2
        exact ⟨rfl, BF.out⟩
  · rw [if_pos (by decide)] at KB
    go_enter Tryz.func143, Tryz.ntmps143
    go_wp2_with fail
    rw [W0.out]
    go_wp2_with fail
    refine (VA.out _).mono ?_
    rintro e w1 ⟨rfl, hb1⟩
    have D1 := hid hb1
    obtain ⟨t10, t11, t12⟩ := C3.out _ hb1
    have LT := hid (show (w1.alloc (.cells #[.int .u8 3] 5)).ownsRow w1.heap.size 5 1 (.slice (some ⟨w1.heap.size, 0, none⟩) 1 1) [UInt8.ofNat 3].length ([UInt8.ofNat 3].map encB) from lit1 w1 (UInt8.ofNat 3))
    have n1 := below_alloc w1 (.cells #[.int .u8 3] 5)
    obtain ⟨y0, y1, y2⟩ := C3.out _ (D1.out.trans (n1.mono D1.out.size))
    have D2 := hid (D1.out.trans (n1.mono D1.out.size))
    have hs1 : w1.heap.size ≤ (w1.alloc (.cells #[.int .u8 3] 5)).heap.size := n1.size
    have NC := hid (NU.out [UInt8.ofNat 3] _ w1.heap.size _ LT.out hs1 (by simp))
    have HS1 := hid hs1
    clear hb1 n1 hs1
    go_wp2_with fail
    refine NC.out.mono ?_
    rintro e w2 ⟨v2, rfl, ho2, hb2⟩
    obtain ⟨g, cap, hv2⟩ := own_formK ho2 (by simp)
    subst hv2
    have CV := conv_any ho2
    have BF := hid (B0.out.trans ((D1.out.trans ((((Below.refl _ w1).alloc (Nat.le_refl _) _).trans hb2).mono D1.out.size)).mono hsz0))
    have KE := hid (show R = [UInt8.ofNat 3] ++ numB nm by rw [KB.out]; rfl)
    rw [← KE.out] at CV ⊢
    clear ho2 hb2
    go_wp2_with fail
    go_ret2
    exact ⟨rfl, BF.out⟩

end Go.Proofs.YtalejolehccclaaGreatDoor


/- The walks of bits.TrailingZeros32 and attrset.Members, over the table that they read. -/
namespace Go.Proofs.YtalejolehccclaaGreatDoor
open Go.RowKit

/-- The table of the library, and a world that holds it. -/
def tabL : List Nat := [0, 1, 28, 2, 29, 14, 24, 3, 30, 22, 20, 15, 25, 17, 4, 8, 31, 27, 13, 23, 21, 19, 16, 7, 26, 12, 18, 6, 11, 5, 10, 9]
def Tab (w : World) : Prop := 0 < w.heap.size ∧ ∀ i n : Nat, tabL[i]? = some n → w.cell? ⟨0, i, none⟩ = some (.int .u8 (n : Int))
theorem Tab.below {w w' : World} (h : Tab w) (hb : Below w.heap.size w w') : Tab w' :=
  ⟨Nat.lt_of_lt_of_le h.1 hb.size, fun i n hi => (hb.cell (p := ⟨0, i, none⟩) h.1).trans (h.2 i n hi)⟩
def tzx (s : S) : S := ((s &&& -s) * 125613361#32) >>> 27
theorem tab_low : ∀ i : Fin 32, tabL[((bit i.val * 125613361#32) >>> 27).toNat]? = some i.val := by decide +kernel
theorem tab_less : ∀ i : Fin 32, ((bit i.val * 125613361#32) >>> 27).toNat < 32 := by decide +kernel
theorem tzx_spec {s : S} {i : Nat} (hi : i < 32) (hb : s &&& -s = bit i) : ∃ k : Nat, k < 32 ∧ iv (tzx s) = (k : Int) ∧ tabL[k]? = some i := by
  refine ⟨(tzx s).toNat, ?_, rfl, ?_⟩
  · unfold tzx; rw [hb]; exact tab_less ⟨i, hi⟩
  · unfold tzx; rw [hb]; exact tab_low ⟨i, hi⟩

@[go_sem] theorem iv_mulc (a : S) : IntKind.u32.wrap (iv a * 125613361) = iv (a * 125613361#32) := by
  rw [IntKind.wrap_u32]; unfold iv
  rw [BitVec.toNat_mul]; simp
@[go_sem] theorem iv_div27 (s : S) : iv s / (134217728 : Int) = iv (s >>> 27) := iv_shr s 27

/-- TrailingZeros32. -/
theorem tz_any (s : S) (w : World) (hT : Tab w) (i : Nat) (hi : i < 32) (h0 : s ≠ 0#32) (hb : s &&& -s = bit i) :
    Calls Tryz.prog 189 #[enc s] w fun e w' => e = .returned (.int .i64 i) ∧ w = w' := by
  obtain ⟨k, hk, hx, ht⟩ := tzx_spec hi hb
  have hc := hT.2 _ _ ht
  have hz : (s == 0#32) = false := by simpa using h0
  have hx' : iv (((s &&& -s) * 125613361#32) >>> 27) = (k : Int) := hx
  clear hx ht hT hb h0
  simp only [enc_eq]
  go_enter Tryz.func189, Tryz.ntmps189
  go_wp2_with fail
  go_ret
  exact ⟨rfl, rfl⟩

/-- Members. -/
theorem amembers_any (s : S) (w : World) (hT : Tab w) :
    Calls Tryz.prog 142 #[enc s] w fun e w' => ∃ v, e = .returned v ∧ w'.ownsRow w.heap.size 3 1 v (memN s 32).length ((memN s 32).map encI) ∧ Below w.heap.size w w' := by
  have C := hid (fun (r : S) (W : World) (hb : Below w.heap.size w W) => tz_any r W (hT.below hb))
  have ML := memN_length s 32
  simp only [enc_eq] at C ⊢
  clear hT
  go_enter Tryz.func142, Tryz.ntmps142
  go_wp2_with fail
  go_loopw [0, 3] (fun u o wr => ∃ (r : S) (out : List Nat), u = .int .u32 (iv r) ∧ wr.ownsRow w.heap.size 3 1 o out.length (out.map encI) ∧ Hid (out ++ memN r 32 = memN s 32) ∧ Below w.heap.size w wr) (fun u _ _ => (intOf u).toNat)
  case atStart => exact ⟨s, [], rfl, World.ownsRow_nil _ _ _ _, hid rfl, Below.refl _ _⟩
  case round =>
    obtain ⟨r, out, rfl, hown, M, hnx⟩ := hrel
    have hsz := hnx.size
    have hol : out.length ≤ 32 := by have := congrArg List.length M.out; simp at this; omega
    cases hr : (r != 0#32) with
    | true =>
      have h0 : r ≠ 0#32 := by simpa using hr
      obtain ⟨i, hi, h1, h2, h3, h4⟩ := low_bit h0
      have T := hid (C.out r wr hnx i hi h0 h3)
      have hdl := drop_low_lt h0
      have M2 := hid (show (out ++ [i]) ++ memN (r &&& (r - 1#32)) 32 = memN s 32 by
        rw [← M.out, memN_low hi h1 h2, h4]; simp)
      have hrl := r.isLt
      clear h1 h2 h3 h4 h0 M
      go_wp2_with fail
      refine (T.out).mono ?_
      rintro e w' ⟨rfl, rfl⟩
      go_wp2_with (at_builtin; refine wpList_push rfl _ _ 114 rfl w.heap.size 3 (.int .i64 0) 8 undInts infoInt rfl (by decide) encI (fun _ => rfl) _ out rfl (hown.alloc _) ⟨wr.heap.size, 0, none⟩ i rfl cell_new (by omega) (by simp; omega) ?_)
      intro v' w1 hown' hgrow
      have hb1 := below_push hnx hsz hown hgrow
      clear hgrow hown hnx
      go_wp2_with fail
      go_roundw
      case rel => exact ⟨r &&& (r - 1#32), out ++ [i], rfl, by simpa using hown', M2, hb1⟩
      case measure => simp only [intOf, iv]; omega
    | false =>
      have h0 : r = 0#32 := by simpa using hr
      have M2 := hid (show out = memN s 32 by rw [← M.out, h0, memN_zero, List.append_nil])
      go_wp2_with fail
      go_ret
      rw [← M2.out]
      exact ⟨_, rfl, hown, hnx⟩

end Go.Proofs.YtalejolehccclaaGreatDoor


/- The walk of keymine's Duplicates. -/
namespace Go.Proofs.YtalejolehccclaaGreatDoor
open Go.RowKit
set_option linter.unusedVariables false

theorem step_pushE {α : Type} {P : Program} {w : World} {ops : Array Oper} {o : Oper} {a : Act} {K : Act → World → Prop} {Q : Exit → Act → World → Prop} {E : Prop} (hgd : o.guard = none) (s x : Operand) (t : TypeId)
    (ho : o.op = .call { callee := .builtin .append, args := #[s, x], argTypes := #[t, t] })
    (B : Nat) (e : TypeId) (z : Value) (bytes : Nat) (ht : P.underlying t = some (.slice e)) (hinfo : (P.info? e).map (fun i => (i.zero, i.size, i.bytes)) = some (some z, 1, bytes)) (hz : z.cells.size = 1) (hb8 : bytes ≤ 64)
    (f : α → Value) (v : Value) (xs : List α) (hs : a.eval s = v) (hown : w.ownsRow B e 1 v xs.length (xs.map f))
    (ad : Addr) (y : α) (hf : (f y).oneCell' = true) (hx : a.eval x = .slice (some ad) 1 1) (hy : w.cell? ad = some (f y)) (hl : xs.length < 2199023255552) (hB : B ≤ w.heap.size)
    (h : ∀ v' w', w'.ownsRow B e 1 v' (xs ++ [y]).length ((xs ++ [y]).map f) → w.grownBy w' v.ownBlock → (v'.ownBlock = v.ownBlock ∨ v'.ownBlock = some w.heap.size) → K (a.put o.dst v') w') :
    if Region.wanted o (yielded ops a.tmps) = true then Oper.wp P o a w K Q else E := by
  refine step_pushB hgd s x t ho B e z 1 bytes ht hinfo hz (by decide) hb8 (fun y => [f y]) (fun _ => rfl) v xs hs (by rw [← List.map_eq_flatMap]; exact hown) ad y (by simpa using hf) hx ?_ hl hB ?_
  · intro j u hj
    match j, hj with
    | 0, hj => simp at hj; subst hj; rw [Addr.add_zero']; exact hy
  · intro v' w' h1 h2 h3
    rw [← List.map_eq_flatMap] at h1
    exact h v' w' h1 h2 h3

theorem kE_ok {t : T3} {s : S} {small : Bool} (h : kE t s small = 0) : tabE2 t = 0 ∧ (∀ i, t.2.1.length ≤ i → s.getLsbD i = false) ∧ (small = true → t.2.1.length ≤ 12) := by
  unfold kE at h
  split at h
  · rename_i h1; exact absurd h h1
  · rename_i h1
    split at h
    · exact absurd h (by decide)
    · rename_i h2
      split at h
      · exact absurd h (by decide)
      · rename_i h3
        have h200 : ¬ 200 < t.2.2.length := fun e => h2 (.inl e)
        have hE : tabE2 t = 0 := by unfold tabE2; rw [if_neg h1, if_neg h200]
        refine ⟨hE, fun i hi => ?_, fun hs => ?_⟩
        · have h16 := (tabE2_ok hE).1
          have h4 : s >>> min t.2.1.length 32 = 0#32 := by simpa using h3
          rw [Nat.min_eq_left (by omega)] at h4
          have := congrArg (fun x => x.getLsbD (i - t.2.1.length)) h4
          simpa [BitVec.getLsbD_ushiftRight, Nat.add_sub_cancel' hi] using this
        · have : ¬ 12 < t.2.1.length := fun e => h2 (.inr ⟨hs, e⟩)
          omega
theorem own_sliceN {w : World} {B n : Nat} {e : TypeId} {v : Value} {xs : List Value} (h : w.ownsRow B e 1 v n xs) : ∃ ao n cap, v = .slice ao n cap := by
  obtain ⟨ao, cap, h⟩ := own_sliceG h
  exact ⟨ao, _, cap, h⟩
theorem undStrK : Tryz.prog.underlying 9 = some .string := by kernel_rfl
theorem undMapP : Tryz.prog.underlying 202 = some (.map 9 3) := by kernel_rfl
abbrev OwnP := OwnG (strKeys (P := Tryz.prog) (k := 9) undStrK) (.int .i64 0)
theorem bigs_map (gs : List Gp) : (bigs gs).map (·.2) = (gs.map (·.2)).filter fun g => decide (2 ≤ g.length) := by
  unfold bigs
  rw [List.filter_map]
  congr 1
  apply List.filter_congr
  intro g _
  show (!decide ((g.2.length : Int) < 2)) = decide (2 ≤ g.2.length)
  by_cases h : 2 ≤ g.2.length
  · rw [decide_eq_true h, decide_eq_false (by omega)]; rfl
  · rw [decide_eq_false h, decide_eq_true (by omega)]; rfl

set_option maxHeartbeats 6400000 in
set_option maxRecDepth 100000 in
theorem kdup_ok (t : T3) (av rv : Value) (s : S) (w : World) (ht : RdT w av rv t) (hT : Tab w) (hk : kE t s false = 0) (hok : ∀ r ∈ t.2.2, ∀ x ∈ r.2.2, okV x) :
    Calls Tryz.prog 98 #[.agg #[.string t.1, av, rv], .int .u32 (iv s)] w fun e w' => ∃ (v' : Value) (gs : List Gp), e = .returned (.tuple #[v', .int .i64 0]) ∧ RdG w' v' gs ∧ gs.map (·.2) = bigG (lK t.2.2 s) ∧ gs.length ≤ 200 ∧ Below w.heap.size w w' := by
  have hb0 := below_alloc w (.cells #[.string t.1, av, rv] 32)
  have C3 := hid (fun W h => cells3 (w := w) (a := .string t.1) (b := av) (c := rv) (t := 32) W h)
  have T0 := hid (ht.below hb0)
  obtain ⟨w0, hw0⟩ : ∃ w0 : World, w.alloc (.cells #[.string t.1, av, rv] 32) = w0 := ⟨_, rfl⟩
  rw [hw0] at hb0 C3 T0
  have B0 := hid hb0
  have W0 := hid hw0
  have hsz0 := hb0.size
  clear hb0 hw0
  have KC := hid (fun (W : World) (h : Below w0.heap.size w0 W) => kcheck_any t av rv s false W (T0.out.below h))
  rw [hk] at KC
  obtain ⟨hk2, hbits, -⟩ := kE_ok hk
  obtain ⟨h16, h200, hrows⟩ := tabE2_ok hk2
  have HT0 := hid (hT.below B0.out)
  have MM := hid (fun (W : World) (h : Below w0.heap.size w0 W) => show Calls Tryz.prog 142 #[.int .u32 (iv s)] W fun e w' => ∃ v, e = .returned v ∧ w'.ownsRow W.heap.size 3 1 v (memN s 32).length ((memN s 32).map encI) ∧ Below W.heap.size W w' from amembers_any s W (HT0.out.below h))
  have KY := hid (fun (x : V3) (hx : okV x) (W : World) => key_any x hx W)
  obtain ⟨nm, ats, rs⟩ := t
  replace h16 : ats.length ≤ 16 := h16
  replace h200 : rs.length ≤ 200 := h200
  have HR := hid (show ∀ r ∈ rs, r.2.2.length = ats.length from fun r hr => (hrows r hr).1)
  have HOK := hid (show ∀ r ∈ rs, ∀ x ∈ r.2.2, okV x from hok)
  have HMS := hid (show ∀ a ∈ memN s 32, a < ats.length from fun a ha => by
    by_cases h : a < ats.length
    · exact h
    · have := (mem_memN.1 ha).2
      rw [hbits a (by show ats.length ≤ a; omega)] at this; cases this)
  have HML := hid (memN_length s 32)
  have SG := hid (lB_groups (m := ats.length) (by omega) HR.out HOK.out hbits)
  have RES := hid (show ∀ gs : List Gp, gs.map (·.2) = grpOf (lB rs s) → (bigs gs).map (·.2) = bigG (lK rs s) from fun gs h => by rw [bigs_map, h]; exact bigG_of SG.out)
  have LBA := hid (fun (k : Nat) (r : Row3) (h : rs[k]? = some r) => lB_at h s)
  have LBL := hid (lB_length rs s)
  show Calls _ _ _ _ fun e w' => ∃ (v' : Value) (gs : List Gp), e = .returned (.tuple #[v', .int .i64 0]) ∧ RdG w' v' gs ∧ gs.map (·.2) = bigG (lK rs s) ∧ gs.length ≤ 200 ∧ Below w.heap.size w w'
  generalize bigG (lK rs s) = BG at *
  obtain ⟨LB, hLB⟩ : ∃ LB : List (KS × Int), lB rs s = LB := ⟨_, rfl⟩
  rw [hLB] at RES LBL
  have LBA2 : Hid (∀ (k : Nat) (r : Row3), rs[k]? = some r → LB[k]? = some (mkKS (kyB r.2.2 (memN s 32)), r.1)) := hid (by rw [← hLB]; exact LBA.out)
  clear LBA SG hLB hbits
  generalize memN s 32 = ms at *
  have hmm := @run_makeMap Tryz.prog
  obtain ⟨ro, rcap, rfl, hrl, hrc⟩ := RdR.split T0.out.2
  have RC := hid hrc
  obtain ⟨t00, t01, t02⟩ := C3.out _ (Below.refl _ _)
  clear hk hk2 ht hrows hrc hok hT
  go_enter Tryz.func98, Tryz.ntmps98
  go_wp2_with fail
  rw [W0.out]
  go_wp2_with fail
  refine (KC.out _ (Below.refl _ _)).mono ?_
  rintro e w1 ⟨rfl, hb1⟩
  have D1 := hid hb1
  have hs1 := hb1.size
  obtain ⟨t10, t11, t12⟩ := C3.out _ hb1
  have hm0 := OwnG.made (strKeys (P := Tryz.prog) (k := 9) undStrK) (.int .i64 0) w1
  have n1 := below_alloc w1 (.map #[] 0)
  have hnx1 := hb1.trans (n1.mono hs1)
  obtain ⟨u10, u11, u12⟩ := C3.out _ hnx1
  have HM0 := hid hm0
  have NX1 := hid hnx1
  clear hb1 t00 t01 t02 hm0 n1 hnx1
  go_wp2_with fail
  go_loopw [8, 28] (fun u i wr => ∃ (k : Nat) (gs : List Gp), k ≤ rs.length ∧ i = .int .i64 k ∧ OwnP wr w1.heap.size gs.length (placeV (dedK ((LB.take k).map (·.1)))) (hasK (dedK ((LB.take k).map (·.1)))) ∧ OwnGr wr (w1.heap.size + 1) 206 2 u gs ∧ Hid (gs.map (·.2) = grpOf (LB.take k)) ∧ Below w0.heap.size w0 wr) (fun _ i _ => rs.length - (intOf i).toNat)
  case atStart => exact ⟨0, [], Nat.zero_le _, rfl, HM0.out.congr (fun s => by rw [List.take_zero]; rfl) (fun s => by rw [List.take_zero]; rfl), OwnGr.nil _ _ _ _, hid (by rw [List.take_zero]; rfl), NX1.out⟩
  case round =>
    obtain ⟨wo, rfl⟩ : ∃ wo : World, wo = wr := ⟨_, rfl⟩
    obtain ⟨i, gs, hk, rfl, hmap, hgr, HG, hnx⟩ := hrel
    have hsz := hnx.size
    have i0 : (0 : Int) ≤ (i : Int) := by omega
    have HGL0 := hid (show gs.length ≤ i by have h := congrArg List.length HG.out; rw [List.length_map] at h; have h2 := grpOf_length (LB.take i); have h3 := List.length_take_le i LB; omega)
    have HGE := hid (show ∀ g ∈ gs, g.2.length ≤ 200 from fun g hg => by
      have h1 : g.2 ∈ grpOf (LB.take i) := by rw [← HG.out]; exact List.mem_map.2 ⟨g, hg, rfl⟩
      have h2 := grpOf_bound h1
      have h3 := List.length_take_le i LB
      omega)
    by_cases hlt : i < rs.length
    · obtain ⟨⟨rid, ru, rvs⟩, hr⟩ := get_some hlt
      obtain ⟨⟨b, off, rfl, hd⟩, hvs⟩ := RC.out i _ hr
      have HLT := hid hlt
      have HR1 := hid (show rvs.length = ats.length from HR.out _ (List.mem_of_getElem? hr))
      have OK1 := hid (show ∀ x ∈ rvs, okV x from HOK.out _ (List.mem_of_getElem? hr))
      have LB1 := hid (show LB[i]? = some (mkKS (kyB rvs ms), rid) from LBA2.out i _ hr)
      obtain ⟨uo, ucap, rfl, -, huc⟩ := RdV.split (show RdV wo ru rvs from hvs wo hnx)
      have UC := hid huc
      have hba := below_alloc wo (.cells #[.int .i64 rid, .slice uo rvs.length ucap] 87)
      have HBA := hid hba
      have hnx2 := hnx.trans (hba.mono hsz)
      obtain ⟨f0, f1⟩ := hd wo hnx
      have CM := hid (MM.out _ hnx2)
      have NXo := hid hnx
      have HMP := hid hmap
      have HGR := hid hgr
      have HWO := hid hmap.lt
      have CR := hid (fun (W : World) (h : Below (wo.alloc (.cells #[.int .i64 rid, .slice uo rvs.length ucap] 87)).heap.size (wo.alloc (.cells #[.int .i64 rid, .slice uo rvs.length ucap] 87)) W) => cells2 (w := wo) (a := .int .i64 rid) (b := .slice uo rvs.length ucap) (t := 87) W h)
      obtain ⟨go, gcap, hge⟩ := own_sliceG hgr.outer
      clear hd hvs huc hr hba hnx hnx2 hmap hgr
      subst hge
      go_wp2_with fail
      refine CM.out.mono ?_
      rintro e w6 ⟨v6, rfl, ho6, hb6⟩
      have R6 := RdE.of_owns ho6 (by have := HML.out; omega)
      obtain ⟨mo, mcap, rfl, -, hmc⟩ := R6.split
      have MC := hid hmc
      have B6 := hid hb6
      have hs6 := hb6.size
      have hbo6 := HBA.out.trans (hb6.mono HBA.out.size)
      have BO6 := hid hbo6
      clear ho6 hb6 R6 hmc hbo6
      unfold encI at MC
      go_wp2_with fail
      go_loopw [11, 35] (fun kv j wr => ∃ jn : Nat, jn ≤ ms.length ∧ j = .int .i64 jn ∧ kv = .string (strB (kyB rvs (ms.take jn))) ∧ Below w6.heap.size w6 wr) (fun _ j _ => ms.length - (intOf j).toNat)
      case atStart => exact ⟨0, Nat.zero_le _, rfl, by rw [List.take_zero]; rfl, Below.refl _ _⟩
      case round =>
        obtain ⟨jn, hjk, rfl, rfl, hnx6⟩ := hrel
        have hsz6 := hnx6.size
        have j0 : (0 : Int) ≤ (jn : Int) := by omega
        have hjb : jn ≤ 32 := by have := HML.out; omega
        by_cases hlt6 : jn < ms.length
        · obtain ⟨a, ha⟩ := get_some hlt6
          obtain ⟨b', off', rfl, hd'⟩ := MC.out jn a ha
          have g0 := hd' wr hnx6
          have hal : a < rvs.length := by rw [HR1.out]; exact HMS.out a (List.mem_of_getElem? ha)
          have hai : (a : Int) < (rvs.length : Int) := by omega
          have a0 : (0 : Int) ≤ (a : Int) := by omega
          obtain ⟨x, hx⟩ := get_some hal
          obtain ⟨vb, voff, rfl, hvd⟩ := UC.out a x hx
          have hbw := BO6.out.trans (hnx6.mono BO6.out.size)
          obtain ⟨x0, x1, x2⟩ := hvd wr hbw
          obtain ⟨q0, q1⟩ := CR.out wr (B6.out.trans (hnx6.mono hs6))
          have HK := hid (KY.out x (OK1.out x (List.mem_of_getElem? hx)) wr)
          have NXT := hid (kyB_next (j := jn) ha hx)
          have LEN := hid (show (kyB rvs (ms.take jn)).length ≤ 12896 from kyB_length (fun y hy => (OK1.out y hy).1) (fun z hz => by rw [HR1.out]; exact HMS.out z (List.mem_of_mem_take hz)) (by have := List.length_take_le jn ms; have := HML.out; omega))
          have LE2 := hid (keyB_length x (OK1.out x (List.mem_of_getElem? hx)).1)
          have HLT6 := hid hlt6
          have NX6 := hid hnx6
          obtain ⟨sa, hsa⟩ : ∃ sa, strB (kyB rvs (ms.take jn)) = sa := ⟨_, rfl⟩
          rw [hsa]
          have HSA := hid hsa
          have hsl : sa.size ≤ 12896 := by rw [← hsa, strB_size]; exact LEN.out
          have HSL := hid hsl
          clear hd' ha hx hvd hnx6 hbw hal hsa hsl
          go_wp2_with fail
          refine HK.out.mono ?_
          rintro e w7 ⟨rfl, hb7⟩
          obtain ⟨sb, hsb⟩ : ∃ sb : ByteArray, (⟨(keyB x).toArray⟩ : ByteArray) = sb := ⟨_, rfl⟩
          have hbl : sb.size ≤ 403 := by rw [← hsb]; show (strB (keyB x)).size ≤ 403; rw [strB_size]; exact LE2.out
          rw [hsb]
          have NX7 := hid (NX6.out.trans (hb7.mono hsz6))
          have hsum : sa.size + sb.size ≤ 9223372036854775807 := by have := HSL.out; omega
          have hadd := fun W => run_string_add_sum (P := Tryz.prog) W sa sb hsum
          have hno : ¬ (sa.size + sb.size > 9223372036854775807) := by omega
          have KN := hid (show strB (kyB rvs (ms.take (jn + 1))) = sa ++ sb by rw [NXT.out, ← strB_append, HSA.out, ← hsb]; rfl)
          clear hb7 hsb hbl hsum
          go_wp2_with fail
          go_roundw
          case rel => exact ⟨jn + 1, by have := HLT6.out; omega, by go_num, by rw [KN.out], NX7.out⟩
          case measure => have := HLT6.out; simp [intOf]; omega
        · have hje : jn = ms.length := by omega
          subst hje
          rw [List.take_length]
          have LEN := hid (show (kyB rvs ms).length ≤ 12896 from kyB_length (fun y hy => (OK1.out y hy).1) (fun z hz => by rw [HR1.out]; exact HMS.out z hz) HML.out)
          have hml : (kyB rvs ms).length ≤ maxLen := Nat.le_trans LEN.out (by decide)
          have KV := hid (mkKS_val hml)
          obtain ⟨sa, hsa⟩ : ∃ sa, strB (kyB rvs ms) = sa := ⟨_, rfl⟩
          obtain ⟨K, hK⟩ : ∃ K, mkKS (kyB rvs ms) = K := ⟨_, rfl⟩
          rw [hK, hsa] at KV
          rw [hK] at LB1
          rw [hsa]
          obtain ⟨kb, hkb⟩ := K
          replace KV : kb = sa := KV.out
          subst KV
          obtain ⟨p6, p7⟩ := CR.out wr (B6.out.trans (hnx6.mono hs6))
          have hbw := BO6.out.trans (hnx6.mono BO6.out.size)
          have RBQ := hid p6
          have BW := hid hbw
          have NXQ := hid (NXo.out.trans (hbw.mono hsz))
          have MPQ := hid (HMP.out.below hbw)
          have GRQ := hid (HGR.out.below hbw)
          have TN := hid (take_next LB1.out)
          have LTW := hid (show wo.heap.size < wr.heap.size from World.block_lt_of_cell? _ _ p6)
          obtain ⟨L, hL⟩ : ∃ L, LB.take i = L := ⟨_, rfl⟩
          rw [hL] at TN HG MPQ HMP
          have HLT0 := hlt
          clear hlt6 hlt hsa hK hL hnx6 hbw LEN hml p6 p7 HMP hjk
          by_cases hmem : (⟨kb, hkb⟩ : KS) ∈ dedK (L.map (·.1))
          · have HPP := hid (show hasK (dedK (L.map (·.1))) (⟨kb, hkb⟩ : KS) = true from hasK_in hmem)
            have HAT := grpOf_at hmem
            obtain ⟨OLD, HDK⟩ := grpOf_old rid hmem
            have HFV := hid (placeV_in hmem)
            have PLT := posK_lt hmem
            have DL : (dedK (L.map (·.1))).length = gs.length := by
              have h := congrArg List.length HG.out
              rw [List.length_map] at h
              rw [h]; unfold grpOf; rw [List.length_map]
            obtain ⟨p, hp⟩ : ∃ p, posK (dedK (L.map (·.1))) (⟨kb, hkb⟩ : KS) = p := ⟨_, rfl⟩
            rw [hp] at HAT OLD HFV PLT
            rw [← HG.out, List.getElem?_map] at HAT
            obtain ⟨⟨gv, gl⟩, hpos⟩ := get_some (show p < gs.length by omega)
            rw [hpos] at HAT
            simp only [Option.map_some, Option.some.injEq] at HAT
            have HPOS := hid hpos
            have HPL := hid (show p < gs.length by omega)
            have FG := hid (fun (v8 : Value) => show Hid ((gs.set p (v8, gl ++ [rid])).map (·.2) = grpOf (L ++ [((⟨kb, hkb⟩ : KS), rid)])) from hid (by rw [OLD, ← HAT, ← HG.out, List.map_set]))
            have MPW := hid (show OwnP wr w1.heap.size gs.length (placeV (dedK ((L ++ [((⟨kb, hkb⟩ : KS), rid)]).map (·.1)))) (hasK (dedK ((L ++ [((⟨kb, hkb⟩ : KS), rid)]).map (·.1)))) by rw [HDK]; exact MPQ.out)
            obtain ⟨o, gcap', hform⟩ := own_formK GRQ.out.outer (by omega)
            simp only [Value.slice.injEq, true_and] at hform
            obtain ⟨rfl, rfl⟩ := hform
            have OWG := GRQ
            have NXW := NXQ
            have RB0 := RBQ
            have HGL := hid (show gl.length ≤ 200 from HGE.out _ (List.mem_of_getElem? hpos))
            clear hmem HAT OLD HDK PLT DL hp hpos
            go_wp2_with (at_lookup; refine wpList_glook_ok (E := strKeys (P := Tryz.prog) (k := 9) undStrK) (z := .int .i64 0) (f := placeV (dedK (L.map (·.1)))) (p := hasK (dedK (L.map (·.1)))) (n := gs.length) (b := w1.heap.size) (e := 3) rfl _ _ 202 rfl undMapP (Tryz.zeroValue3 _) rfl MPQ.out (⟨kb, hkb⟩ : KS) rfl ?_; rw [HFV.out, HPP.out])
            have gcell : wr.cell? ⟨o, p, none⟩ = some gv := by rw [OWG.out.outer.cellAt p (by have := HPL.out; omega), List.getElem?_map, HPOS.out]; rfl
            have pn : (p : Int) < (gs.length : Int) := by have := HPL.out; omega
            have p0 : (0 : Int) ≤ (p : Int) := by omega
            have rb0 := RB0.out
            have GMEM := hid (List.mem_of_getElem? HPOS.out)
            have GI := hid (show wr.ownsRow (w1.heap.size + 1) 2 1 gv gl.length (gl.map encJ) from OWG.out.inner _ GMEM.out)
            have HGNE := hid (show gv.ownBlock ≠ some o from fun e => by
              rcases OWG.out.away _ GMEM.out with h | h
              · rw [show gv.ownBlock = none from h] at e; cases e
              · exact h e)
            have HO1 := hid (OWG.out.outer.lt o rfl)
            have XB := hid (show Below wr.heap.size wr (wr.drew.alloc (.cells #[.int .i64 rid] 2)) from (Below.refl _ _).drew.alloc (by simp) _)
            have GI2 := hid (own_below GI.out XB.out)
            have OWG2 := hid (OWG.out.below XB.out)
            have NX2 := hid (NXW.out.trans (XB.out.mono NXW.out.size))
            have MP2 := hid (MPW.out.below XB.out)
            have SZW := hid (show w1.heap.size + 1 ≤ (wr.drew.alloc (.cells #[.int .i64 rid] 2)).heap.size by have := HO1.out; have := XB.out.size; omega)
            have CN := hid (show (wr.drew.alloc (.cells #[.int .i64 rid] 2)).cell? ⟨wr.heap.size, 0, none⟩ = some (encJ rid) from cell_new (w := wr.drew))
            have S0 := hid (show w0.heap.size ≤ w1.heap.size from D1.out.size)
            have gcell2 : (wr.alloc (.cells #[.int .i64 rid] 2)).cell? ⟨o, p, none⟩ = some gv := ((below_alloc wr (.cells #[.int .i64 rid] 2)).cell (p := ⟨o, p, none⟩) HO1.out.2).trans gcell
            go_wp2_with fail
            go_region_law ((refine step_pushE (by rfl) _ _ 206 (by rfl) (w1.heap.size + 1) 2 (.int .i64 0) 8 undG64 info64 rfl (by decide) encJ gv gl (by rfl) GI2.out ⟨wr.heap.size, 0, none⟩ rid rfl (by rfl) CN.out (by have := HGL.out; omega) SZW.out ?_; intro v8 w8 hown8 hg8 hv8; obtain ⟨ao8, n8, cap8, rfl⟩ := own_sliceN hown8; have ho8 := OWG2.out.outer.kept hg8 (.inr (fun e => HGNE.out e.symm)); have hc8 := (ho8.cellAt p (by have := HPL.out; omega)).trans (show (gs.map Prod.fst)[p]? = some gv by rw [List.getElem?_map, HPOS.out]; rfl); have hf8 : w8.frozen? ⟨o, p, none⟩ = false := ho8.frozenAt _; have OG9 := hid (OwnGr.add (x := rid) OWG2.out HPOS.out hown8 hg8 hv8 rfl); have ST9 := (ho8.stored p (.slice ao8 n8 cap8)).2; have MP8 := MP2.out.kept hg8 (fun e => by have := (GI2.out.lt _ e.symm).1; omega); have MP9 := hid (MP8.kept ST9 (by intro e; have := HO1.out.1; simp at e; omega)); have NX8 := NX2.out.grown hg8 NX2.out.size (fun j hj => by have := (GI2.out.lt j hj).1; have := S0.out; omega); have NX9 := hid (NX8.grown ST9 NX8.size (fun j hj => by have h1 := HO1.out.1; have h2 := S0.out; simp at hj; omega)); clear hown8 hg8 hv8 ho8 ST9 MP8 NX8))
            all_goals
              have HG9 := hid (FG.out (.slice ao8 n8 cap8))
              clear hc8 hf8 gcell gcell2 rb0
              go_wp2_with fail
              go_roundw
              case rel => exact ⟨i + 1, gs.set p (.slice ao8 n8 cap8, gl ++ [rid]), by have := HLT.out; omega, by go_num, by rw [List.length_set, TN.out]; exact MP9.out, OG9.out, by rw [TN.out]; exact HG9, NX9.out⟩
              case measure => have := HLT.out; simp [intOf]; omega
          · have HPP := hid (show hasK (dedK (L.map (·.1))) (⟨kb, hkb⟩ : KS) = false from hasK_out hmem)
            obtain ⟨NEW, HDK⟩ := grpOf_new rid hmem
            have HFV := hid (show placeV (dedK (L.map (·.1))) (⟨kb, hkb⟩ : KS) = .int .i64 0 from if_neg hmem)
            have DL : (dedK (L.map (·.1))).length = gs.length := by
              have h := congrArg List.length HG.out
              rw [List.length_map] at h
              rw [h]; unfold grpOf; rw [List.length_map]
            have PV := hid (fun (s : KS) => show (if s = ⟨kb, hkb⟩ then Value.int .i64 (gs.length : Nat) else placeV (dedK (L.map (·.1))) s) = placeV (dedK ((L ++ [((⟨kb, hkb⟩ : KS), rid)]).map (·.1))) s by rw [HDK, ← placeV_new hmem s, DL])
            have PD := hid (fun (s : KS) => show (if s = ⟨kb, hkb⟩ then true else hasK (dedK (L.map (·.1))) s) = hasK (dedK ((L ++ [((⟨kb, hkb⟩ : KS), rid)]).map (·.1))) s by rw [HDK, hasK_snoc])
            have GSM := hid (show (gs ++ [((.slice none 0 0, []) : Gp)])[gs.length]? = some (.slice none 0 0, []) by simp)
            have FG0 := hid (fun (v8 : Value) => show Hid (((gs ++ [((.slice none 0 0, []) : Gp)]).set gs.length (v8, [] ++ [rid])).map (·.2) = grpOf (L ++ [((⟨kb, hkb⟩ : KS), rid)])) from hid (by rw [NEW, ← HG.out]; simp))
            clear hmem NEW HDK DL
            have hgl0 : gs.length ≤ 200 := by have := HGL0.out; omega
            have HGLX := hid hgl0
            go_wp2_with (first
              | (at_lookup; refine wpList_glook_ok (E := strKeys (P := Tryz.prog) (k := 9) undStrK) (z := .int .i64 0) (f := placeV (dedK (L.map (·.1)))) (p := hasK (dedK (L.map (·.1)))) (n := gs.length) (b := w1.heap.size) (e := 3) rfl _ _ 202 rfl undMapP (Tryz.zeroValue3 _) rfl MPQ.out (⟨kb, hkb⟩ : KS) rfl ?_; rw [HFV.out, HPP.out])
              | (at_mapUpdate; refine wpList_gput (E := strKeys (P := Tryz.prog) (k := 9) undStrK) (e := 3) rfl _ _ _ 202 rfl undMapP rfl MPQ.out (by have := HGLX.out; unfold maxLen; omega) (⟨kb, hkb⟩ : KS) (.int .i64 (gs.length : Int)) rfl rfl ?_))
            intro w4 hm4 hg4
            have GR4 : OwnGr w4 (w1.heap.size + 1) 206 2 (.slice go gs.length gcap) gs := GRQ.out.kept hg4 (fun k hk => by cases hk; omega)
            have hne4 : some wo.heap.size ≠ some w1.heap.size := by
              intro e
              simp at e
              have := HWO.out
              omega
            have c4 := (hg4.cell_far ⟨wo.heap.size, 0, none⟩ LTW.out hne4).trans RBQ.out
            have nx4 : Below w0.heap.size w0 w4 := NXQ.out.grown hg4 NXQ.out.size (fun j hj => by cases hj; exact D1.out.size)
            have MP4 := hid (show OwnP w4 w1.heap.size (gs.length + 1) (placeV (dedK ((L ++ [((⟨kb, hkb⟩ : KS), rid)]).map (·.1)))) (hasK (dedK ((L ++ [((⟨kb, hkb⟩ : KS), rid)]).map (·.1)))) from hm4.congr (fun s => PV.out s) (fun s => PD.out s))
            have HGR4 := hid GR4
            have C4 := hid c4
            have NX4 := hid nx4
            have LT4 := hid (show wo.heap.size < w4.heap.size from World.block_lt_of_cell? _ _ c4)
            have HSZ4 := hid (show w1.heap.size + 1 ≤ w4.heap.size from MP4.out.lt)
            clear hm4 hg4 GR4 hne4 c4 nx4 PV PD
            go_wp2_with (at_builtin; refine wpList_pushE rfl _ _ 150 rfl (w1.heap.size + 1) 206 (.slice none 0 0) 24 undGr infoGr rfl (by decide) (Prod.fst : Gp → Value) _ gs rfl (HGR4.out.outer.alloc _) ⟨w4.heap.size, 0, none⟩ ((.slice none 0 0, []) : Gp) rfl rfl (by simp) (by have := HGLX.out; omega) (by have := HSZ4.out; simp; omega) ?_)
            intro v5 w5 hown5 hg5 hl5
            have b5 := below_alloc w4 (.cells #[.slice none 0 0] 206)
            have GR5 := (HGR4.out.below b5).push (by simpa using hown5) hg5 (hl5.imp id fun h => by simpa using h)
            have HNB := hid (fun (j : Nat) (e : (Value.slice go gs.length gcap).ownBlock = some j) => HGR.out.outer.lt j e)
            have hne5 : some wo.heap.size ≠ (Value.slice go gs.length gcap).ownBlock := fun e => by have := (HNB.out _ e.symm).2; omega
            have lt5 : wo.heap.size < (w4.alloc (.cells #[.slice none 0 0] 206)).heap.size := by have := LT4.out; simp; omega
            have c6 := (hg5.cell_far ⟨wo.heap.size, 0, none⟩ lt5 hne5).trans ((b5.cell (p := ⟨wo.heap.size, 0, none⟩) LT4.out).trans C4.out)
            have hm6 := (MP4.out.below b5).kept hg5 (by
              intro e
              have := (HNB.out _ e.symm).1
              omega)
            have nx6 := below_push NX4.out NX4.out.size (own_mono HGR4.out.outer (show w0.heap.size ≤ w1.heap.size + 1 by have := D1.out.size; omega)) hg5
            obtain ⟨gs1, hgs1⟩ : ∃ gs1, gs ++ [((.slice none 0 0, []) : Gp)] = gs1 := ⟨_, rfl⟩
            have GLN := hid (show gs1.length = gs.length + 1 by rw [← hgs1]; simp)
            rw [hgs1] at GR5 GSM FG0
            obtain ⟨o, gcap', hform⟩ := own_formK GR5.outer (by have := GLN.out; omega)
            subst hform
            obtain ⟨p, hp⟩ : ∃ p, gs.length = p := ⟨_, rfl⟩
            have HPOS := hid GSM.out
            have HPL := hid (show gs.length < gs1.length by have := GLN.out; omega)
            have MPW := hid (show OwnP w5 w1.heap.size gs1.length (placeV (dedK ((L ++ [((⟨kb, hkb⟩ : KS), rid)]).map (·.1)))) (hasK (dedK ((L ++ [((⟨kb, hkb⟩ : KS), rid)]).map (·.1)))) by rw [GLN.out]; exact hm6)
            have OWG := hid GR5
            have NXW := hid nx6
            have RB0 := hid c6
            obtain ⟨gv, hgv⟩ : ∃ gv : Value, .slice none 0 0 = gv := ⟨_, rfl⟩
            obtain ⟨gl, hgl⟩ : ∃ gl : List Int, [] = gl := ⟨_, rfl⟩
            rw [hgv, hgl] at HPOS
            have FG := hid (fun (v8 : Value) => show Hid ((gs1.set gs.length (v8, gl ++ [rid])).map (·.2) = grpOf (L ++ [((⟨kb, hkb⟩ : KS), rid)])) by rw [← hgl]; exact FG0.out v8)
            have HGL := hid (show gl.length ≤ 200 by rw [← hgl]; simp)
            rw [hp] at HPOS HPL FG
            clear hown5 hg5 hl5 b5 GR5 HNB hne5 lt5 c6 hm6 nx6 hgs1 GSM FG0 hgl GLN C4 NX4 MP4 HGR4 LT4
            rw [hp]
            clear hgv hp
            have gcell : w5.cell? ⟨o, p, none⟩ = some gv := by rw [OWG.out.outer.cellAt p (by have := HPL.out; omega), List.getElem?_map, HPOS.out]; rfl
            have pn : (p : Int) < (gs1.length : Int) := by have := HPL.out; omega
            have p0 : (0 : Int) ≤ (p : Int) := by omega
            have rb0 := RB0.out
            have GMEM := hid (List.mem_of_getElem? HPOS.out)
            have GI := hid (show w5.ownsRow (w1.heap.size + 1) 2 1 gv gl.length (gl.map encJ) from OWG.out.inner _ GMEM.out)
            have HGNE := hid (show gv.ownBlock ≠ some o from fun e => by
              rcases OWG.out.away _ GMEM.out with h | h
              · rw [show gv.ownBlock = none from h] at e; cases e
              · exact h e)
            have HO1 := hid (OWG.out.outer.lt o rfl)
            have XB := hid (show Below w5.heap.size w5 (w5.drew.alloc (.cells #[.int .i64 rid] 2)) from (Below.refl _ _).drew.alloc (by simp) _)
            have GI2 := hid (own_below GI.out XB.out)
            have OWG2 := hid (OWG.out.below XB.out)
            have NX2 := hid (NXW.out.trans (XB.out.mono NXW.out.size))
            have MP2 := hid (MPW.out.below XB.out)
            have SZW := hid (show w1.heap.size + 1 ≤ (w5.drew.alloc (.cells #[.int .i64 rid] 2)).heap.size by have := HO1.out; have := XB.out.size; omega)
            have CN := hid (show (w5.drew.alloc (.cells #[.int .i64 rid] 2)).cell? ⟨w5.heap.size, 0, none⟩ = some (encJ rid) from cell_new (w := w5.drew))
            have S0 := hid (show w0.heap.size ≤ w1.heap.size from D1.out.size)
            have gcell2 : (w5.alloc (.cells #[.int .i64 rid] 2)).cell? ⟨o, p, none⟩ = some gv := ((below_alloc w5 (.cells #[.int .i64 rid] 2)).cell (p := ⟨o, p, none⟩) HO1.out.2).trans gcell
            go_wp2_with fail
            go_region_law ((refine step_pushE (by rfl) _ _ 206 (by rfl) (w1.heap.size + 1) 2 (.int .i64 0) 8 undG64 info64 rfl (by decide) encJ gv gl (by rfl) GI2.out ⟨w5.heap.size, 0, none⟩ rid rfl (by rfl) CN.out (by have := HGL.out; omega) SZW.out ?_; intro v8 w8 hown8 hg8 hv8; obtain ⟨ao8, n8, cap8, rfl⟩ := own_sliceN hown8; have ho8 := OWG2.out.outer.kept hg8 (.inr (fun e => HGNE.out e.symm)); have hc8 := (ho8.cellAt p (by have := HPL.out; omega)).trans (show (gs1.map Prod.fst)[p]? = some gv by rw [List.getElem?_map, HPOS.out]; rfl); have hf8 : w8.frozen? ⟨o, p, none⟩ = false := ho8.frozenAt _; have OG9 := hid (OwnGr.add (x := rid) OWG2.out HPOS.out hown8 hg8 hv8 rfl); have ST9 := (ho8.stored p (.slice ao8 n8 cap8)).2; have MP8 := MP2.out.kept hg8 (fun e => by have := (GI2.out.lt _ e.symm).1; omega); have MP9 := hid (MP8.kept ST9 (by intro e; have := HO1.out.1; simp at e; omega)); have NX8 := NX2.out.grown hg8 NX2.out.size (fun j hj => by have := (GI2.out.lt j hj).1; have := S0.out; omega); have NX9 := hid (NX8.grown ST9 NX8.size (fun j hj => by have h1 := HO1.out.1; have h2 := S0.out; simp at hj; omega)); clear hown8 hg8 hv8 ho8 ST9 MP8 NX8))
            all_goals
              have HG9 := hid (FG.out (.slice ao8 n8 cap8))
              clear hc8 hf8 gcell gcell2 rb0
              go_wp2_with fail
              go_roundw
              case rel => exact ⟨i + 1, gs1.set p (.slice ao8 n8 cap8, gl ++ [rid]), by have := HLT.out; omega, by go_num, by rw [List.length_set, TN.out]; exact MP9.out, OG9.out, by rw [TN.out]; exact HG9, NX9.out⟩
              case measure => have := HLT.out; simp [intOf]; omega
    · have hie : i = rs.length := by omega
      have HG2 := hid (show (bigs gs).map (·.2) = BG from RES.out gs (by have h := HG.out; rw [List.take_of_length_le (by rw [LBL.out]; omega)] at h; exact h))
      have DG := hid (deleteG_any (w1.heap.size + 1) gs _ wo w0 hnx (by omega) hgr (by have := HGL0.out; omega) (fun g hg => by have := HGE.out g hg; omega))
      have HBL := hid (show (bigs gs).length ≤ 200 by have h := List.length_filter_le (fun g => !smallG g) gs; have h2 := HGL0.out; show (gs.filter fun g => !smallG g).length ≤ 200; omega)
      clear hmap hgr hnx HG hie
      go_wp2_with fail
      refine DG.out.mono ?_
      rintro e w9 ⟨v9, rfl, hrd, hb9⟩
      have BF := hid (B0.out.trans (hb9.mono hsz0))
      have RD := hid hrd
      clear hb9 hrd
      go_wp2_with fail
      go_ret2
      exact ⟨_, _, rfl, RD.out, HG2.out, HBL.out, BF.out⟩

end Go.Proofs.YtalejolehccclaaGreatDoor


/- The walks of keymine's Unique, All, Maximal, right and Best. -/
namespace Go.Proofs.YtalejolehccclaaGreatDoor
open Go.RowKit
set_option linter.unusedVariables false

/-! Plain. -/
theorem uni_nodup {m : Nat} {rs : List Row3} (hw : Wide m rs) (hm : m ≤ 32) {s : S} (hs : sub s (fullN m)) : uniB (pairsS rs) s = true ↔ ((lK rs s).map (·.1)).Nodup := by
  have e : (lK rs s).map (·.1) = rs.map fun r => valTo r.2.2 s m := by
    unfold lK
    rw [List.map_map]
    apply List.map_congr_left
    intro r hr
    show valTo r.2.2 s r.2.2.length = _
    rw [hw r hr]
  rw [e, uniB_iff]
  have key : ∀ (i k : Nat) (r q : Row3), rs[i]? = some r → rs[k]? = some q → (valTo r.2.2 s m = valTo q.2.2 s m ↔ sub s (rowsS r.2.2 q.2.2 m)) := by
    intro i k r q hr hq
    rw [← agB_eq (hw r (List.mem_of_getElem? hr)) s]
    exact agB_sub (hw r (List.mem_of_getElem? hr)) (hw q (List.mem_of_getElem? hq)) hm hs
  constructor
  · intro h
    refine List.pairwise_iff_getElem.2 ?_
    intro i k hi hk hik he
    rw [List.length_map] at hi hk
    rw [List.getElem_map, List.getElem_map] at he
    exact h _ ((mem_pairsW hw).2 ⟨i, k, rs[i], rs[k], hik, List.getElem?_eq_getElem hi, List.getElem?_eq_getElem hk, rfl⟩) ((key i k _ _ (List.getElem?_eq_getElem hi) (List.getElem?_eq_getElem hk)).1 he)
  · intro h p hp hsp
    obtain ⟨i, k, r, q, hik, hr, hq, rfl⟩ := (mem_pairsW hw).1 hp
    obtain ⟨hi, hri⟩ := List.getElem?_eq_some_iff.1 hr
    obtain ⟨hk, hqk⟩ := List.getElem?_eq_some_iff.1 hq
    refine List.pairwise_iff_getElem.1 h i k (by simpa using hi) (by simpa using hk) hik ?_
    rw [List.getElem_map, List.getElem_map, hri, hqk]
    exact (key i k r q hr hq).2 hsp
theorem bits_sub {s : S} {m : Nat} (h : ∀ i, m ≤ i → s.getLsbD i = false) (hm : m ≤ 32) : sub s (fullN m) := by
  refine sub_full_lt.2 ?_
  by_cases hlt : s.toNat < 2 ^ m
  · exact hlt
  · exfalso
    obtain ⟨i, hi, hb⟩ := Nat.exists_ge_and_testBit_of_ge_two_pow (Nat.le_of_not_lt hlt)
    rw [BitVec.testBit_toNat, h i hi] at hb
    cases hb
theorem big_uni {t : T3} {s : S} (hk : kE t s false = 0) : (bigG (lK t.2.2 s)).isEmpty = uniB (pairsS t.2.2) s := by
  obtain ⟨h1, h2, -⟩ := kE_ok hk
  obtain ⟨h16, -, hr⟩ := tabE2_ok h1
  have := uni_nodup (fun r hr' => (hr r hr').1) (by omega) (bits_sub h2 (by omega)) (rs := t.2.2) (s := s)
  rw [← bigG_nil] at this
  cases hu : uniB (pairsS t.2.2) s with
  | true => rw [this.1 hu]; rfl
  | false =>
    cases hb : bigG (lK t.2.2 s) with
    | nil => rw [this.2 hb] at hu; cases hu
    | cons a l => rfl
def okT (t : T3) : Prop := ∀ r ∈ t.2.2, ∀ x ∈ r.2.2, okV x
def kuB (t : T3) (s : S) : Bool := decide (kE t s false = 0) && uniB (pairsS t.2.2) s
def dupL (t : T3) (s : S) : List (List Int) := if kE t s false = 0 then bigG (lK t.2.2 s) else []

set_option maxRecDepth 100000 in
theorem kdup_err (t : T3) (av rv : Value) (s : S) (w : World) (ht : RdT w av rv t) (hk : kE t s false ≠ 0) :
    Calls Tryz.prog 98 #[.agg #[.string t.1, av, rv], .int .u32 (iv s)] w fun e w' => e = .returned (.tuple #[.slice none 0 0, .int .i64 (kE t s false)]) ∧ Below w.heap.size w w' := by
  have hb0 := below_alloc w (.cells #[.string t.1, av, rv] 32)
  have C3 := hid (fun W h => cells3 (w := w) (a := .string t.1) (b := av) (c := rv) (t := 32) W h)
  have T0 := hid (ht.below hb0)
  obtain ⟨w0, hw0⟩ : ∃ w0 : World, w.alloc (.cells #[.string t.1, av, rv] 32) = w0 := ⟨_, rfl⟩
  rw [hw0] at hb0 C3 T0
  have B0 := hid hb0
  have W0 := hid hw0
  have hsz0 := hb0.size
  clear hb0 hw0
  have KC := hid (fun (W : World) (h : Below w0.heap.size w0 W) => kcheck_any t av rv s false W (T0.out.below h))
  obtain ⟨t00, t01, t02⟩ := C3.out _ (Below.refl _ _)
  generalize kE t s false = ke at *
  obtain ⟨nm, ats, rs⟩ := t
  have hne : (ke != (0 : Int)) = true := by simpa using hk
  clear hk ht
  go_enter Tryz.func98, Tryz.ntmps98
  go_wp2_with fail
  rw [W0.out]
  go_wp2_with fail
  refine (KC.out _ (Below.refl _ _)).mono ?_
  rintro e w1 ⟨rfl, hb1⟩
  have BF := hid (B0.out.trans (hb1.mono hsz0))
  clear hb1
  go_wp2_with fail
  go_ret2
  exact ⟨rfl, BF.out⟩
theorem RdG.nil (w : World) : RdG w (.slice none 0 0) [] := ⟨RdE.of_owns (World.ownsRow_nil (w := w) 0 0 1) (by simp), by simp⟩
theorem kdup_any (t : T3) (av rv : Value) (s : S) (w : World) (ht : RdT w av rv t) (hT : Tab w) (hok : kE t s false = 0 → okT t) :
    Calls Tryz.prog 98 #[.agg #[.string t.1, av, rv], .int .u32 (iv s)] w fun e w' => ∃ (v' : Value) (gs : List Gp), e = .returned (.tuple #[v', .int .i64 (kE t s false)]) ∧ RdG w' v' gs ∧ gs.map (·.2) = dupL t s ∧ gs.length ≤ 200 ∧ Below w.heap.size w w' := by
  by_cases hk : kE t s false = 0
  · refine (kdup_ok t av rv s w ht hT hk (hok hk)).mono ?_
    rintro e w' ⟨v', gs, rfl, h1, h2, h3, h4⟩
    exact ⟨v', gs, by rw [hk], h1, by unfold dupL; rw [if_pos hk]; exact h2, h3, h4⟩
  · refine (kdup_err t av rv s w ht hk).mono ?_
    rintro e w' ⟨rfl, h4⟩
    exact ⟨_, [], rfl, RdG.nil w', by unfold dupL; rw [if_neg hk]; rfl, by simp, h4⟩

set_option maxRecDepth 100000 in
theorem kunique_any (t : T3) (av rv : Value) (s : S) (w : World) (ht : RdT w av rv t) (hT : Tab w) (hok : kE t s false = 0 → okT t) :
    Calls Tryz.prog 49 #[.agg #[.string t.1, av, rv], .int .u32 (iv s)] w fun e w' => e = .returned (.tuple #[.bool (kuB t s), .int .i64 (kE t s false)]) ∧ Below w.heap.size w w' := by
  have hb0 := below_alloc w (.cells #[.string t.1, av, rv] 32)
  have C3 := hid (fun W h => cells3 (w := w) (a := .string t.1) (b := av) (c := rv) (t := 32) W h)
  have T0 := hid (ht.below hb0)
  obtain ⟨w0, hw0⟩ : ∃ w0 : World, w.alloc (.cells #[.string t.1, av, rv] 32) = w0 := ⟨_, rfl⟩
  rw [hw0] at hb0 C3 T0
  have B0 := hid hb0
  have W0 := hid hw0
  have hsz0 := hb0.size
  clear hb0 hw0
  have KD := hid (kdup_any t av rv s w0 T0.out (hT.below B0.out) hok)
  have KU := hid (show kuB t s = (decide (kE t s false = 0) && uniB (pairsS t.2.2) s) from rfl)
  have BU := hid (fun (h : kE t s false = 0) => big_uni h)
  have DL := hid (show dupL t s = if kE t s false = 0 then bigG (lK t.2.2 s) else [] from rfl)
  obtain ⟨t00, t01, t02⟩ := C3.out _ (Below.refl _ _)
  generalize kuB t s = ku at *
  generalize dupL t s = dl at *
  generalize kE t s false = ke at *
  obtain ⟨nm, ats, rs⟩ := t
  clear ht hok hT
  by_cases h0 : ke = 0
  · subst h0
    rw [if_pos rfl] at DL
    have RR := hid (fun (gs : List Gp) (hgs : gs.map (·.2) = dl) => show ((gs.length : Int) == 0) = ku by
      rw [KU.out]
      have h1 := BU.out rfl
      show _ = (true && uniB (pairsS rs) s)
      rw [Bool.true_and]
      refine Eq.trans ?_ h1
      rw [show bigG (lK rs s) = gs.map (·.2) by rw [hgs]; exact DL.out.symm]
      cases gs with
      | nil => rfl
      | cons a l => exact beq_eq_false_iff_ne.2 (by rw [List.length_cons]; omega))
    clear KU BU DL
    go_enter Tryz.func49, Tryz.ntmps49
    go_wp2_with fail
    rw [W0.out]
    go_wp2_with fail
    refine KD.out.mono ?_
    rintro e w1 ⟨v', gs, rfl, hrd, hgs, hgl, hb1⟩
    have BF := hid (B0.out.trans (hb1.mono hsz0))
    obtain ⟨go, gcap, rfl, -⟩ := hrd.1.split
    have R := hid (RR.out gs hgs)
    clear hb1 hrd hgs hgl
    go_wp2_with fail
    go_ret2
    exact ⟨by rw [← R.out]; rfl, BF.out⟩
  · have hne : (ke == (0 : Int)) = false := by simpa using h0
    have R := hid (show ku = false by rw [KU.out, decide_eq_false h0]; rfl)
    clear h0
    go_enter Tryz.func49, Tryz.ntmps49
    go_wp2_with fail
    rw [W0.out]
    go_wp2_with fail
    refine KD.out.mono ?_
    rintro e w1 ⟨v', gs, rfl, hrd, hgs, hgl, hb1⟩
    have BF := hid (B0.out.trans (hb1.mono hsz0))
    clear hb1 hrd hgs hgl
    go_wp2_with fail
    go_ret2
    exact ⟨by rw [R.out]; rfl, BF.out⟩

/-! All, Maximal, Best. -/
def kallL (t : T3) : List S := if kE t 0#32 true = 0 then keyN t.2.1.length (pairsS t.2.2) else []
def kmaxL (t : T3) : List W3 := if kE t 0#32 true = 0 then witsL t.2.2 else []
set_option maxRecDepth 100000 in
theorem kmaximal_any (t : T3) (av rv : Value) (w : World) (ht : RdT w av rv t) :
    Calls Tryz.prog 16 #[.agg #[.string t.1, av, rv]] w fun e w' => ∃ v', e = .returned (.tuple #[v', .int .i64 (kE t 0#32 true)]) ∧ w'.ownsRow w.heap.size 60 3 v' (kmaxL t).length ((kmaxL t).flatMap cW) ∧ (kmaxL t).length ≤ 40000 ∧ Below w.heap.size w w' := by
  have hb0 := below_alloc w (.cells #[.string t.1, av, rv] 32)
  have C3 := hid (fun W h => cells3 (w := w) (a := .string t.1) (b := av) (c := rv) (t := 32) W h)
  have T0 := hid (ht.below hb0)
  obtain ⟨w0, hw0⟩ : ∃ w0 : World, w.alloc (.cells #[.string t.1, av, rv] 32) = w0 := ⟨_, rfl⟩
  rw [hw0] at hb0 C3 T0
  have B0 := hid hb0
  have W0 := hid hw0
  have hsz0 := hb0.size
  clear hb0 hw0
  have KC := hid (fun (W : World) (h : Below w0.heap.size w0 W) => show Calls Tryz.prog 36 #[.agg #[.string t.1, av, rv], .int .u32 0, .bool true] W fun e w' => e = .returned (.int .i64 (kE t 0#32 true)) ∧ Below W.heap.size W w' from kcheck_any t av rv 0#32 true W (T0.out.below h))
  have KW := hid (fun (W : World) (h : Below w0.heap.size w0 W) (hk : tabE2 t = 0) => kwits_any t av rv W (T0.out.below h) hk)
  have KL := hid (show kmaxL t = if kE t 0#32 true = 0 then witsL t.2.2 else [] from rfl)
  have KO := hid (fun (h : kE t 0#32 true = 0) => (kE_ok h).1)
  obtain ⟨t00, t01, t02⟩ := C3.out _ (Below.refl _ _)
  generalize kmaxL t = kl at *
  generalize witsL t.2.2 = wl at *
  generalize kE t 0#32 true = ke at *
  by_cases h0 : ke = 0
  · have KO2 := hid (KO.out h0)
    subst h0
    rw [if_pos rfl] at KL
    rw [KL.out]
    obtain ⟨nm, ats, rs⟩ := t
    clear ht
    go_enter Tryz.func16, Tryz.ntmps16
    go_wp2_with fail
    rw [W0.out]
    go_wp2_with fail
    refine (KC.out _ (Below.refl _ _)).mono ?_
    rintro e w1 ⟨rfl, hb1⟩
    have KW1 := hid (KW.out _ hb1 KO2.out)
    have B1 := hid (B0.out.trans (hb1.mono hsz0))
    obtain ⟨t10, t11, t12⟩ := C3.out _ hb1
    have hle : w.heap.size ≤ w1.heap.size := B1.out.size
    have HLE := hid hle
    clear hb1 t00 t01 t02 hle
    go_wp2_with fail
    refine KW1.out.mono ?_
    rintro e w2 ⟨v2, rfl, ho2, hl2, hb2⟩
    have O2 := hid (own_mono ho2 HLE.out)
    have B2 := hid (B1.out.trans (hb2.mono HLE.out))
    have L2 := hid hl2
    clear ho2 hl2 hb2
    go_wp2_with fail
    go_ret2
    exact ⟨_, rfl, O2.out, L2.out, B2.out⟩
  · have hne : (ke != (0 : Int)) = true := by simpa using h0
    rw [if_neg h0] at KL
    rw [KL.out]
    obtain ⟨nm, ats, rs⟩ := t
    clear ht h0
    go_enter Tryz.func16, Tryz.ntmps16
    go_wp2_with fail
    rw [W0.out]
    go_wp2_with fail
    refine (KC.out _ (Below.refl _ _)).mono ?_
    rintro e w1 ⟨rfl, hb1⟩
    have B1 := hid (B0.out.trans (hb1.mono hsz0))
    clear hb1
    go_wp2_with fail
    go_ret2
    exact ⟨_, rfl, World.ownsRow_nil _ _ _ _, by simp, B1.out⟩

set_option maxHeartbeats 1600000 in
set_option maxRecDepth 100000 in
theorem kall_any (t : T3) (av rv : Value) (w : World) (ht : RdT w av rv t) :
    Calls Tryz.prog 11 #[.agg #[.string t.1, av, rv]] w fun e w' => ∃ v', e = .returned (.tuple #[v', .int .i64 (kE t 0#32 true)]) ∧ w'.ownsRow w.heap.size 58 1 v' (kallL t).length ((kallL t).map enc) ∧ (kallL t).length ≤ 65536 ∧ Below w.heap.size w w' := by
  have hb0 := below_alloc w (.cells #[.string t.1, av, rv] 32)
  have C3 := hid (fun W h => cells3 (w := w) (a := .string t.1) (b := av) (c := rv) (t := 32) W h)
  have T0 := hid (ht.below hb0)
  obtain ⟨w0, hw0⟩ : ∃ w0 : World, w.alloc (.cells #[.string t.1, av, rv] 32) = w0 := ⟨_, rfl⟩
  rw [hw0] at hb0 C3 T0
  have B0 := hid hb0
  have W0 := hid hw0
  have hsz0 := hb0.size
  clear hb0 hw0
  have KC := hid (fun (W : World) (h : Below w0.heap.size w0 W) => show Calls Tryz.prog 36 #[.agg #[.string t.1, av, rv], .int .u32 0, .bool true] W fun e w' => e = .returned (.int .i64 (kE t 0#32 true)) ∧ Below W.heap.size W w' from kcheck_any t av rv 0#32 true W (T0.out.below h))
  have KL := hid (show kallL t = if kE t 0#32 true = 0 then keyN t.2.1.length (pairsS t.2.2) else [] from rfl)
  obtain ⟨t00, t01, t02⟩ := C3.out _ (Below.refl _ _)
  by_cases h0 : kE t 0#32 true = 0
  · obtain ⟨hk2, -, h12⟩ := kE_ok h0
    replace h12 := h12 rfl
    rw [h0] at KC
    rw [if_pos h0] at KL
    rw [KL.out, h0]
    have KW := hid (fun (W : World) (h : Below w0.heap.size w0 W) => kwits_any t av rv W (T0.out.below h) hk2)
    have KS2 := hid (fun (v : Value) (W : World) (h : RdW W v (witsL t.2.2)) (h2 : (witsL t.2.2).length ≤ 40000) => ksets_any (witsL t.2.2) v W h (by omega))
    have KU := hid (fun (v : Value) (W : World) (h : RdE enc W v ((witsL t.2.2).map (·.1))) => kuniques_any t.2.1.length h12 ((witsL t.2.2).map (·.1)) v W h)
    rw [witsL_sets] at KS2 KU
    rw [keyN_max] at KU
    have KB := hid (keyN_bound (show t.2.1.length ≤ 16 by omega) (pairsS t.2.2))
    have WLS := hid (show (keepS upR (pairsS t.2.2)).length = (witsL t.2.2).length by rw [← witsL_sets, List.length_map])
    obtain ⟨nm, ats, rs⟩ := t
    obtain ⟨ao, acap, hva, -⟩ := T0.out.1.split
    simp only at hva KS2 KU KB WLS KW
    subst hva
    show Calls _ _ _ _ fun e w' => ∃ v', e = .returned (.tuple #[v', .int .i64 0]) ∧ w'.ownsRow w.heap.size 58 1 v' (keyN ats.length (pairsS rs)).length ((keyN ats.length (pairsS rs)).map enc) ∧ (keyN ats.length (pairsS rs)).length ≤ 65536 ∧ Below w.heap.size w w'
    generalize keyN ats.length (pairsS rs) = ky at *
    generalize keepS upR (pairsS rs) = ks at *
    generalize witsL rs = wl at *
    clear ht h0 hk2 KL h12
    go_enter Tryz.func11, Tryz.ntmps11
    go_wp2_with fail
    rw [W0.out]
    go_wp2_with fail
    refine (KC.out _ (Below.refl _ _)).mono ?_
    rintro e w1 ⟨rfl, hb1⟩
    have HB1 := hid hb1
    have hs1 := hb1.size
    have SS := hid (fun (W : World) (h : Below w1.heap.size w1 W) => show Below w1.heap.size w1 W ∧ W.cell? ⟨w.heap.size, 0, none⟩ = some (.string nm) ∧ W.cell? ⟨w.heap.size, 1, none⟩ = some (.slice ao ats.length acap) ∧ W.cell? ⟨w.heap.size, 2, none⟩ = some rv from ⟨h, C3.out _ (HB1.out.trans (h.mono hs1))⟩)
    have KW1 := hid (fun (W : World) (h : Below w1.heap.size w1 W) => KW.out W (HB1.out.trans (h.mono hs1)))
    have HLE := hid (show w.heap.size ≤ w1.heap.size from Nat.le_trans hsz0 hs1)
    clear hb1 t00 t01 t02
    go_wp2_with fail
    go_region_held3 (fun W => Below w1.heap.size w1 W ∧ W.cell? ⟨w.heap.size, 0, none⟩ = some (.string nm) ∧ W.cell? ⟨w.heap.size, 1, none⟩ = some (.slice ao ats.length acap) ∧ W.cell? ⟨w.heap.size, 2, none⟩ = some rv)
      (first | exact SS.out _ (Below.refl _ _).drew | exact SS.out _ (by assumption))
      (first
        | (go_at_call 39; have hS := And.left ‹Below w1.heap.size w1 _ ∧ _ ∧ _›; refine (KW1.out _ hS).mono ?_; rintro e wa ⟨va, rfl, hoa, hla, hba⟩; have hLa := hS.trans (hba.mono hS.size); have hra := RdC.of_owns cW_length hoa (by omega); clear hba hS hoa)
        | (go_at_call 38; have hS := And.left ‹Below w1.heap.size w1 _ ∧ _ ∧ _›; refine (KS2.out _ _ hra hla).mono ?_; rintro e wb ⟨vb, rfl, hob, hbb⟩; have hLb := hS.trans (hbb.mono hS.size); have hrb := RdE.of_owns hob (by have := WLS.out; omega); clear hbb hS hob)
        | (go_at_call 37; have hS := And.left ‹Below w1.heap.size w1 _ ∧ _ ∧ _›; refine (KU.out _ _ hrb).mono ?_; rintro e wc ⟨vc, rfl, hoc, hbc⟩; have hLc := hS.trans (hbc.mono hS.size); have hoc2 := own_mono hoc (Nat.le_trans HLE.out hS.size); clear hbc hS hoc))
    all_goals
      have BQ := hid (B0.out.trans ((HB1.out.trans (hLc.mono hs1)).mono hsz0))
      have OQ := hid hoc2
      clear hLa hLb hLc hra hrb hoc2 hla
      go_wp2_with fail
      go_ret2
      exact ⟨_, rfl, OQ.out, KB.out, BQ.out⟩
  · rw [if_neg h0] at KL
    rw [KL.out]
    generalize kE t 0#32 true = ke at *
    have hne : (ke != (0 : Int)) = true := by simpa using h0
    obtain ⟨nm, ats, rs⟩ := t
    clear ht h0 KL
    go_enter Tryz.func11, Tryz.ntmps11
    go_wp2_with fail
    rw [W0.out]
    go_wp2_with fail
    refine (KC.out _ (Below.refl _ _)).mono ?_
    rintro e w1 ⟨rfl, hb1⟩
    have B1 := hid (B0.out.trans (hb1.mono hsz0))
    clear hb1
    go_wp2_with fail
    go_ret2
    exact ⟨_, rfl, World.ownsRow_nil _ _ _ _, by simp, B1.out⟩


end Go.Proofs.YtalejolehccclaaGreatDoor

