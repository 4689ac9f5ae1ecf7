/- Texts that belong together, in one file. -/
import Derived.Test.YtgahpgmagfngfaaGreatDoorGKm1
import Derived.Test.YtgahpgmagfngfaaGreatDoorGFd
import Derived.Test.YtgahpgmagfngfaaGreatDoorGSort
import Derived.Test.YtgahpgmagfngfaaGreatDoorGPlain
import Derived.Test.YtgahpgmagfngfaaGreatDoorListD
import Derived.Test.YtgahpgmagfngfaaGreatDoorGCovM
import Derived.Test.YtgahpgmagfngfaaGreatDoorGLaws07
import Derived.OwnWalk
import Derived.Laws.OwnMore
import Derived.Test.YtgahpgmagfngfaaGreatDoorGKm3
import Derived.Test.YtgahpgmagfngfaaGreatDoorGMid
import Derived.Test.YtgahpgmagfngfaaGreatDoorGFdmB
import Derived.Test.YtgahpgmagfngfaaGreatDoorGTab27
import Derived.Test.YtgahpgmagfngfaaGreatDoorGFdmC
import Derived.Test.YtgahpgmagfngfaaGreatDoorGTab30
import Derived.Test.YtgahpgmagfngfaaGreatDoorGKm2
import Derived.Test.YtgahpgmagfngfaaGreatDoorGWalk
import Derived.Test.YtgahpgmagfngfaaGreatDoorApp0
import Derived.Test.YtgahpgmagfngfaaGreatDoorGTab14
import Derived.Test.YtgahpgmagfngfaaGreatDoorGTab20
/- The walks of Closed, the program's and the reference's: all closed sets of the first attributes, in order. -/
namespace Go.Proofs.YtgahpgmagfngfaaGreatDoor
open Go.RowKit

theorem shl_full {m : Nat} (h : m < 32) : 1#32 <<< m - 1#32 = fullN m := by
  apply BitVec.eq_of_toNat_eq
  rw [fullN_toNat m (by omega), BitVec.toNat_sub, BitVec.toNat_shiftLeft]
  have h1 : 2 ^ m < 2 ^ 32 := Nat.pow_lt_pow_right (by omega) h
  have h2 : 0 < 2 ^ m := Nat.two_pow_pos m
  simp [Nat.shiftLeft_eq]
  omega
theorem pop_full12 {m : Nat} (h : m ≤ 12) : pop (fullN m) ≤ 12 := by
  have : ∀ k : Fin 13, pop (fullN k.val) ≤ 12 := by decide +kernel
  exact this ⟨m, by omega⟩

def closedB (fs : List F) (s : S) : Bool := decide (closedF fs s)
theorem enlI_yes {fs : List F} {s : S} (h : closedB fs s = true) : enlI fs s < 0 := by
  have h1 : closedF fs s := of_decide_eq_true h
  unfold enlI; rw [enlI_none (closed_iff.1 h1)]; decide
theorem enlI_no {fs : List F} {s : S} (h : closedB fs s = false) : ¬ enlI fs s < 0 := by
  have h1 : ¬ closedF fs s := of_decide_eq_false h
  unfold enlI
  split
  · rename_i hn
    exfalso; apply h1; rw [closed_iff, List.any_eq_false]
    rw [List.findIdx?_eq_none_iff] at hn
    intro x hx; simpa using hn x hx
  · omega
/-- The error of Closed, and what it lists. -/
def cloE (n : Int) (fs : List F) : Int := if n < 0 ∨ 16 < n then 7 else if 12 < n then 3 else validF n fs
def ClosedP (n : Int) (fs : List F) (ys : List S) : Prop := (cloE n fs ≠ 0 → ys = []) ∧ (cloE n fs = 0 → IsOrd ys (fun s => sub s (fullN n.toNat) ∧ closedF fs s))
theorem ClosedP.uniq {n : Int} {fs : List F} {xs ys : List S} (h : ClosedP n fs xs) (k : ClosedP n fs ys) : xs = ys := by
  by_cases e : cloE n fs = 0
  · exact (h.2 e).uniq (k.2 e) fun _ => Iff.rfl
  · rw [h.1 e, k.1 e]
theorem cloE_mid {n : Int} {fs : List F} (h0 : ¬ n < 0) (h1 : ¬ 12 < n) : cloE n fs = validF n fs := by unfold cloE; rw [if_neg (by omega), if_neg h1]

/-- What Closed leaves: an error r, and a list of the call's own. -/
def ClosedPost (n : Int) (fs : List F) (r : Int) (w : World) (e : Ending) (w' : World) : Prop := ∃ v' ys, e = .returned (.tuple #[v', .int .i64 r]) ∧ w'.ownsRow w.heap.size 55 1 v' ys.length (ys.map enc) ∧ ClosedP n fs ys ∧ ys.length ≤ 4294967297 ∧ Below w.heap.size w w'

set_option maxHeartbeats 2000000 in
theorem closed_ok (n : Int) (fs : List F) (v : Value) (w : World) (hv : RdF w v fs) (h0 : ¬ n < 0) (h12 : ¬ 12 < n) (hq : validF n fs = 0) :
    Calls Tryz.prog 61 #[.int .i64 n, v] w (ClosedPost n fs (cloE n fs) w) := by
  have V := hid (validF_any n fs v w hv)
  have VZ := hid hq
  clear hq
  have CZ := hid ((cloE_mid (fs := fs) h0 h12).trans VZ.out)
  rw [CZ.out]
  rw [VZ.out] at V
  have h16 : ¬ 16 < n := by omega
  obtain ⟨m, rfl⟩ : ∃ m : Nat, n = m := ⟨n.toNat, by omega⟩
  have hm : m ≤ 12 := by omega
  have SB := hid (fun W => asubsets_any (1#32 <<< m - 1#32) W)
  have EN := hid (fun (s : S) (W : World) (hb : Below w.heap.size w W) => enlarges_any fs s v W (hv.below hb))
  have SF := hid (shl_full (show m < 32 by omega))
  have PF := hid (pop_full12 hm)
  obtain ⟨ao, cap, rfl, -⟩ := hv.split
  clear hv VZ
  simp only [enc_eq] at SB EN
  go_enter Tryz.func61, Tryz.ntmps61
  go_wp2_with fail
  refine (V.out).mono ?_
  rintro e w1 ⟨rfl, hb1⟩
  have B1 := hid hb1
  clear hb1
  go_wp2_with fail
  refine (SB.out _).mono ?_
  rintro e w2 ⟨v2, ys, rfl, hown2, hsp, hyl, hb2⟩
  have B2 := hid (B1.out.trans (hb2.mono B1.out.size))
  have HS := hid (hsp.2 (by rw [SF.out]; exact PF.out))
  have RD := hid (RdE.of_owns hown2 (by omega))
  obtain ⟨ao2, cap2, rfl⟩ : ∃ ao2 cap2, v2 = .slice ao2 ys.length cap2 := by obtain ⟨a, c, h, _⟩ := RD.out; exact ⟨a, c, h⟩
  clear hown2 hsp hb2 SB
  have OR := hid HS.out
  clear HS
  have R2 := B2
  go_wp2_with fail
  have hs2 := B2.out.size
  go_loopw [7, 31] (fun u i wr => ∃ k : Nat, k ≤ ys.length ∧ i = .int .i64 k ∧ wr.ownsRow w2.heap.size 55 1 u ((ys.take k).filter (closedB fs)).length (((ys.take k).filter (closedB fs)).map enc) ∧ Below w2.heap.size w2 wr) (fun _ i _ => ys.length - (intOf i).toNat)
  case atStart => exact ⟨0, Nat.zero_le _, rfl, World.ownsRow_nil _ _ _ _, Below.refl _ _⟩
  case round =>
    obtain ⟨k, hk, rfl, hown, hnx⟩ := hrel
    have hsz := hnx.size
    have hfl : ((ys.take k).filter (closedB fs)).length ≤ k := Nat.le_trans (List.length_filter_le _ _) (by simp; omega)
    by_cases hlt : k < ys.length
    · obtain ⟨x, hx⟩ := get_some hlt
      obtain ⟨b, off, hao, hbw, hc⟩ : ∃ b off, ao2 = some ⟨b, off, none⟩ ∧ b < w2.heap.size ∧ ∀ (i : Nat) (x : S), ys[i]? = some x → w2.cell? ⟨b, off + i, none⟩ = some (enc x) := by
        obtain ⟨a, c, h, _, _, h3⟩ := RD.out
        cases h
        exact h3 (by omega)
      subst hao
      have e1 : wr.cell? ⟨b, off + k, none⟩ = some (.int .u32 (iv x)) := (hnx.cell (p := ⟨b, off + k, none⟩) hbw).trans (hc k x hx)
      have FN := hid (filter_next hx (closedB fs))
      have BW := hid (B2.out.trans (hnx.mono hs2))
      clear hc hx
      generalize (ys.take k).filter (closedB fs) = zs at *
      cases hq : closedB fs x with
      | true =>
        have hen : decide (enlI fs x < 0) = true := decide_eq_true (enlI_yes hq)
        have FN2 := hid (FN.out.trans (by rw [if_pos hq]))
        clear FN hq
        have E1 := hid (EN.out x)
        generalize enlI fs x = r at E1 hen
        go_wp2_with fail
        refine (E1.out _ BW.out).mono ?_
        rintro e w3 ⟨rfl, hb3⟩
        have hown3 := own_below hown hb3
        have hnx3 := hnx.trans (hb3.mono hnx.size)
        have hsz3 := hnx3.size
        clear hb3 hown hnx e1 hbw
        go_wp2_with (at_builtin; refine wpList_push rfl _ _ 59 rfl w2.heap.size 55 (.int .u32 0) 4 undSets infoSet rfl (by decide) enc (fun _ => rfl) _ zs rfl (hown3.alloc _) ⟨w3.heap.size, 0, none⟩ x rfl cell_new (by omega) (by simp; omega) ?_)
        intro v' w4 hown' hgrow
        have hb4 := below_push hnx3 hsz3 hown3 hgrow
        clear hgrow hown3 hnx3
        go_wp2_with fail
        go_roundw
        case rel => exact ⟨k + 1, by omega, by go_num, by rw [FN2.out]; simpa using hown', hb4⟩
        case measure => simp [intOf]; omega
      | false =>
        have hen : decide (enlI fs x < 0) = false := decide_eq_false (enlI_no hq)
        have FN2 := hid (FN.out.trans (by rw [if_neg (by simp [hq]), List.append_nil]))
        clear FN hq
        have E1 := hid (EN.out x)
        generalize enlI fs x = r at E1 hen
        go_wp2_with fail
        refine (E1.out _ BW.out).mono ?_
        rintro e w3 ⟨rfl, hb3⟩
        have hown3 := own_below hown hb3
        have hnx3 := hnx.trans (hb3.mono hnx.size)
        clear hb3 hown hnx e1 hbw
        go_wp2_with fail
        go_roundw
        case rel => exact ⟨k + 1, by omega, by go_num, by rw [FN2.out]; exact hown3, hnx3⟩
        case measure => simp [intOf]; omega
    · have BW := hid (B2.out.trans (hnx.mono hs2))
      have HF := hid (show ClosedP m fs (ys.filter (closedB fs)) from ⟨fun h => absurd CZ.out h, fun _ => (OR.out.filter (closedB fs)).congr fun s => by rw [SF.out]; unfold closedB; rw [decide_eq_true_iff]; rfl⟩)
      rw [take_all hlt] at hown hfl
      have HO := hid (own_mono hown hs2)
      clear hown hnx
      go_wp2_with fail
      go_ret2
      exact ⟨_, _, rfl, HO.out, HF.out, by omega, BW.out⟩



end Go.Proofs.YtgahpgmagfngfaaGreatDoor


/- Plain laws: dependencies within a set stay within it. -/
namespace Go.Proofs.YtgahpgmagfngfaaGreatDoor
open Go.RowKit

def W2 (A : S) (l : List F) : Prop := ∀ f ∈ l, sub f.1 A ∧ sub f.2 A

end Go.Proofs.YtgahpgmagfngfaaGreatDoor


/- Plain laws of keys: superkeys, keys, antikeys, what they have to do with minimal transversals. No program. -/
namespace Go.Proofs.YtgahpgmagfngfaaGreatDoor

theorem validF_w2 {n : Int} {fs : List F} (h : validF n fs = 0) : 0 ≤ n ∧ n ≤ 16 ∧ fs.length ≤ 64 ∧ W2 (fullN n.toNat) fs := by
  unfold validF at h
  split at h
  · simp at h
  · rename_i h1
    split at h
    · simp at h
    · rename_i h2
      split at h
      · simp at h
      · rename_i h3
        refine ⟨by omega, by omega, by omega, fun f hf => ?_⟩
        rw [Bool.not_eq_true, List.any_eq_false] at h3
        have := h3 f hf
        rw [outF_sub] at this
        simpa using this
theorem w2_closeK {fs : List F} {A z : S} (hw : W2 A fs) (hz : sub z A) : sub (closeS fs z) A := (closeS_cl fs z).2.2 _ hz fun f hf _ => (hw f hf).2

/-- A set is a superkey. -/
noncomputable def supB (n : Int) (fs : List F) (s : S) : Bool := decide (validF n fs = 0) && (s >>> n.toNat == 0#32) && (closeS fs s == fullN n.toNat)
theorem supB_bad {n : Int} {fs : List F} (h : validF n fs ≠ 0) (s : S) : supB n fs s = false := by unfold supB; rw [decide_eq_false h]; rfl
theorem supB_iff {n : Int} {fs : List F} (h : validF n fs = 0) {s : S} : supB n fs s = true ↔ sub s (fullN n.toNat) ∧ closeS fs s = fullN n.toNat := by
  unfold supB; rw [decide_eq_true h, sub_full]; simp
theorem supB_full {n : Int} {fs : List F} (h : validF n fs = 0) : supB n fs (fullN n.toNat) = true :=
  (supB_iff h).2 ⟨sub_refl _, sub_antisymm (w2_closeK (validF_w2 h).2.2.2 (sub_refl _)) (closeS_cl _ _).1⟩



/-! The lists. -/
theorem full_pow {m : Nat} (_h : m ≤ 32) {s : S} : sub s (fullN m) → s.toNat < 2 ^ m := fun hs => lt_of_bits fun i hi hm => by
  cases hb : s.getLsbD i with
  | false => rfl
  | true => have := hs i hi hb; rw [fullN_get m i hi, decide_eq_true_iff] at this; omega

/-! Certificates. -/

end Go.Proofs.YtgahpgmagfngfaaGreatDoor


/- The walks of keys: full, Superkey, Is, Reduce. -/
namespace Go.Proofs.YtgahpgmagfngfaaGreatDoor
open Go.RowKit

theorem shl_fullK {m : Nat} (h : m ≤ 16) : 1#32 <<< m - 1#32 = fullN m := by
  have : m = 0 ∨ m = 1 ∨ m = 2 ∨ m = 3 ∨ m = 4 ∨ m = 5 ∨ m = 6 ∨ m = 7 ∨ m = 8 ∨ m = 9 ∨ m = 10 ∨ m = 11 ∨ m = 12 ∨ m = 13 ∨ m = 14 ∨ m = 15 ∨ m = 16 := by omega
  rcases this with rfl | rfl | rfl | rfl | rfl | rfl | rfl | rfl | rfl | rfl | rfl | rfl | rfl | rfl | rfl | rfl | rfl <;> decide +kernel
theorem kfull_any (m : Nat) (hm : m ≤ 16) (w : World) :
    Calls Tryz.prog 57 #[.int .i64 (m : Int)] w fun e w' => e = .returned (enc (fullN m)) ∧ w = w' := by
  have E := hid (shl_fullK hm)
  have m0 : (0 : Int) ≤ (m : Int) := by omega
  rw [← E.out]
  simp only [enc_eq]
  go_enter Tryz.func57, Tryz.ntmps57
  go_wp2_with fail
  go_ret
  exact ⟨rfl, rfl⟩

theorem superkey_any (n : Int) (fs : List F) (s : S) (v : Value) (w : World) (hv : RdF w v fs) :
    Calls Tryz.prog 25 #[.int .i64 n, v, enc s] w fun e w' => e = .returned (.bool (supB n fs s)) ∧ Below w.heap.size w w' := by
  have V := hid (validF_any n fs v w hv)
  have C := hid (fun (W : World) (h : Below w.heap.size w W) => close_any fs s v W (hv.below h))
  obtain ⟨ao, cap, rfl, -⟩ := hv.split
  clear hv
  by_cases hz : validF n fs = 0
  · obtain ⟨h0, h16, -, -⟩ := validF_w2 hz
    obtain ⟨m, rfl⟩ : ∃ m : Nat, n = m := ⟨n.toNat, by omega⟩
    have FU := hid (fun (W : World) => kfull_any m (by omega) W)
    have E := hid (show supB (m : Int) fs s = ((s >>> m == 0#32) && (closeS fs s == fullN m)) by unfold supB; rw [decide_eq_true hz]; rfl)
    rw [E.out]
    rw [hz] at V
    clear hz E h0
    generalize closeS fs s = c at *
    generalize fullN m = fl at *
    have m0 : (0 : Int) ≤ (m : Int) := by omega
    have m1 : (m : Int) ≤ 32 := by omega
    simp only [enc_eq] at C FU ⊢
    cases hs : (s >>> m == 0#32) with
    | false =>
      go_enter Tryz.func25, Tryz.ntmps25
      go_wp2_with fail
      refine V.out.mono ?_
      rintro e w1 ⟨rfl, hb1⟩
      have B1 := hid hb1
      clear hb1
      go_wp2_with fail
      go_ret
      exact ⟨rfl, B1.out⟩
    | true =>
      go_enter Tryz.func25, Tryz.ntmps25
      go_wp2_with fail
      refine V.out.mono ?_
      rintro e w1 ⟨rfl, hb1⟩
      have B1 := hid hb1
      clear hb1
      go_wp2_with fail
      refine (C.out _ B1.out).mono ?_
      rintro e w2 ⟨rfl, hb2⟩
      have B2 := hid (B1.out.trans (hb2.mono B1.out.size))
      clear hb2
      go_wp2_with fail
      refine (FU.out _).mono ?_
      rintro e w' ⟨rfl, rfl⟩
      go_wp2_with fail
      go_ret
      exact ⟨ret_bool (by simp), B2.out⟩
  · have E := hid (supB_bad hz s)
    rw [E.out]
    have hq : (validF n fs == 0) = false := by simpa using hz
    clear hz E
    generalize validF n fs = r at *
    simp only [enc_eq]
    go_enter Tryz.func25, Tryz.ntmps25
    go_wp2_with fail
    refine V.out.mono ?_
    rintro e w1 ⟨rfl, hb1⟩
    have B1 := hid hb1
    clear hb1
    go_wp2_with fail
    go_ret
    exact ⟨rfl, B1.out⟩


/-- What remains when the attributes are left out from the greatest on. -/
def redN (p : S → Bool) : Nat → S → S
  | 0, x => x
  | k + 1, x => redN p k (if p (x &&& ~~~ bit k) then x &&& ~~~ bit k else x)
noncomputable def rdS (n : Int) (fs : List F) (s : S) : S := if supB n fs s = true then redN (supB n fs) n.toNat s else 0#32
noncomputable def rdE (n : Int) (fs : List F) (s : S) : Int := if validF n fs ≠ 0 then validF n fs else if supB n fs s = true then 0 else 1
theorem ret_seti {k : Int} {a b : S} (h : a = b) : Ending.returned (.tuple #[.int .u32 (iv a), .int .i64 k]) = Ending.returned (.tuple #[.int .u32 (iv b), .int .i64 k]) := by rw [h]

theorem kreduce_any (n : Int) (fs : List F) (s : S) (v : Value) (w : World) (hv : RdF w v fs) :
    Calls Tryz.prog 26 #[.int .i64 n, v, enc s] w fun e w' => e = .returned (.tuple #[enc (rdS n fs s), .int .i64 (rdE n fs s)]) ∧ Below w.heap.size w w' := by
  have V := hid (validF_any n fs v w hv)
  have C := hid (fun s (wr : World) (hb : Below w.heap.size w wr) => superkey_any n fs s v wr (hv.below hb))
  obtain ⟨ao, cap, rfl, -⟩ := hv.split
  clear hv
  by_cases hz : validF n fs = 0
  · obtain ⟨h0, h16, -, -⟩ := validF_w2 hz
    obtain ⟨m, rfl⟩ : ∃ m : Nat, n = m := ⟨n.toNat, by omega⟩
    have ES := hid (show rdS (m : Int) fs s = if supB (m : Int) fs s = true then redN (supB (m : Int) fs) m s else 0#32 from rfl)
    have EE := hid (show rdE (m : Int) fs s = if supB (m : Int) fs s = true then 0 else 1 by unfold rdE; rw [if_neg (by simpa using hz)])
    rw [ES.out, EE.out]
    rw [hz] at V
    clear hz ES EE
    generalize supB (m : Int) fs = p at *
    simp only [enc_eq] at C ⊢
    cases hh : p s with
    | false =>
      have C0 := hid (C.out s)
      rw [hh] at C0
      rw [if_neg (by simp), if_neg (by simp)]
      clear hh
      go_enter Tryz.func26, Tryz.ntmps26
      go_wp2_with fail
      refine V.out.mono ?_
      rintro e w1 ⟨rfl, hb1⟩
      have B1 := hid hb1
      clear hb1
      go_wp2_with fail
      refine (C0.out _ B1.out).mono ?_
      rintro e w2 ⟨rfl, hb2⟩
      have B2 := hid (B1.out.trans (hb2.mono B1.out.size))
      clear hb2
      go_wp2_with fail
      go_ret2
      exact ⟨rfl, B2.out⟩
    | true =>
      have C0 := hid (C.out s)
      rw [hh] at C0
      rw [if_pos rfl, if_pos rfl]
      obtain ⟨z, hzz⟩ : ∃ z, redN p m s = z := ⟨_, rfl⟩
      rw [hzz]
      have Z := hid hzz
      clear hh hzz
      go_enter Tryz.func26, Tryz.ntmps26
      go_wp2_with fail
      refine V.out.mono ?_
      rintro e w1 ⟨rfl, hb1⟩
      have B1 := hid hb1
      clear hb1
      go_wp2_with fail
      refine (C0.out _ B1.out).mono ?_
      rintro e w2 ⟨rfl, hb2⟩
      have B2 := hid (B1.out.trans (hb2.mono B1.out.size))
      clear hb2
      go_wp2_with fail
      go_loopw [2, 9] (fun x i wr => ∃ (k : Nat) (y : S) (c : Int), k ≤ m ∧ c = (k : Int) - 1 ∧ i = .int .i64 c ∧ x = .int .u32 (iv y) ∧ Hid (redN p k y = z) ∧ Below w.heap.size w wr) (fun _ i _ => (intOf i + 1).toNat)
      case atStart => exact ⟨m, s, (m : Int) - 1, Nat.le_refl _, rfl, by go_num, rfl, Z, B2.out⟩
      case round =>
        obtain ⟨k, y, c, hk, hc, rfl, rfl, HZ, hnx⟩ := hrel
        cases k with
        | zero =>
          obtain rfl : c = -1 := by simpa using hc
          have hd : decide ((-1 : Int) ≥ 0) = false := by decide
          have Z2 := hid (show y = z from HZ.out)
          clear hc HZ
          go_wp2_with fail
          go_ret2
          exact ⟨ret_seti Z2.out, hnx⟩
        | succ k =>
          obtain rfl : c = (k : Int) := by omega
          have k0 : (0 : Int) ≤ (k : Int) := by omega
          have hd : decide ((k : Int) ≥ 0) = true := by simp
          have C1 := hid (C.out (y &&& ~~~ (1#32 <<< k)) _ hnx)
          have STEP := hid (show redN p k (if p (y &&& ~~~ (1#32 <<< k)) then y &&& ~~~ (1#32 <<< k) else y) = z from HZ.out)
          have HN := hid hnx
          clear hnx HZ hc
          cases hq : p (y &&& ~~~ (1#32 <<< k)) with
          | true =>
            rw [hq] at C1 STEP
            rw [if_pos rfl] at STEP
            clear hq
            go_wp2_with fail
            refine C1.out.mono ?_
            rintro e w3 ⟨rfl, hb3⟩
            have B3 := hid (HN.out.trans (hb3.mono HN.out.size))
            clear hb3
            go_wp2_with fail
            go_roundw
            case rel => exact ⟨k, y &&& ~~~ (1#32 <<< k), (k : Int) - 1, by omega, rfl, by go_num, rfl, STEP, B3.out⟩
            case measure => simp [intOf] <;> omega
          | false =>
            rw [hq] at C1 STEP
            rw [if_neg (by simp)] at STEP
            clear hq
            go_wp2_with fail
            refine C1.out.mono ?_
            rintro e w3 ⟨rfl, hb3⟩
            have B3 := hid (HN.out.trans (hb3.mono HN.out.size))
            clear hb3
            go_wp2_with fail
            go_roundw
            case rel => exact ⟨k, y, (k : Int) - 1, by omega, rfl, by go_num, rfl, STEP, B3.out⟩
            case measure => simp [intOf] <;> omega
  · have ES := hid (show rdS n fs s = 0#32 by unfold rdS; rw [if_neg (by rw [supB_bad hz]; simp)])
    have EE := hid (show rdE n fs s = validF n fs by unfold rdE; rw [if_pos hz])
    rw [ES.out, EE.out]
    have hq : (validF n fs != 0) = true := by simpa using hz
    clear hz ES EE
    generalize validF n fs = r at *
    simp only [enc_eq]
    go_enter Tryz.func26, Tryz.ntmps26
    go_wp2_with fail
    refine V.out.mono ?_
    rintro e w1 ⟨rfl, hb1⟩
    have B1 := hid hb1
    clear hb1
    go_wp2_with fail
    go_ret2
    exact ⟨rfl, B1.out⟩

end Go.Proofs.YtgahpgmagfngfaaGreatDoor


/- The walks of keys: supers, extreme. -/
namespace Go.Proofs.YtgahpgmagfngfaaGreatDoor
open Go.RowKit




/-! The extreme sets. -/


end Go.Proofs.YtgahpgmagfngfaaGreatDoor


/- The walks of keys: All, Prime, Anti, Check. -/
namespace Go.Proofs.YtgahpgmagfngfaaGreatDoor
open Go.RowKit






end Go.Proofs.YtgahpgmagfngfaaGreatDoor


/- What makes examples reckonable: implication by four rounds. No program. -/
namespace Go.Proofs.YtgahpgmagfngfaaGreatDoor

/-- Implication by four rounds, where they suffice. -/
noncomputable def impC (fs : List F) (f : F) : Bool := if closedF fs (iterF fs 4 f.1) then decide (sub f.2 (iterF fs 4 f.1)) else impS fs f
theorem impC_eq : impC = impS := by
  funext fs f
  unfold impC
  split
  · rename_i h; unfold impS; rw [closeS_iter 4 h]
  · rfl
section
variable (imp : List F → F → Bool)
def redG (l : List F) (i : Nat) : Bool := imp (othersF l i) (l.getD i (0#32, 0#32))
def trimStepG (i : Nat) (l : List F) (a : Nat) : List F :=
  match l[i]? with
  | none => l
  | some x => if imp l (x.1 &&& ~~~ bit a, x.2) then l.set i (x.1 &&& ~~~ bit a, x.2) else l
def trimNG (l : List F) (i : Nat) (ns : List Nat) : List F := ns.foldl (trimStepG imp i) l
def trimFG (l : List F) : Nat → List F
  | 0 => l
  | k + 1 => trimNG imp (trimFG l k) k (lhsN (trimFG l k) k)
def dropFG : Nat → List F → Nat → List F
  | 0, l, _ => l
  | n + 1, l, i => if i < l.length then (if redG imp l i then dropFG n (othersF l i) i else dropFG n l (i + 1)) else l
def minG (l : List F) : List F := dropFG imp ((onceF (trimFG imp (splitF l) (splitF l).length)).length - 0) (onceF (trimFG imp (splitF l) (splitF l).length)) 0
end
theorem redG_eq : redG impS = redB := rfl
theorem trimFG_eq (l : List F) : ∀ k, trimFG impS l k = trimF l k := by
  intro k
  induction k with
  | zero => rfl
  | succ k ih => unfold trimFG trimF; rw [ih]; rfl
theorem dropFG_eq : ∀ (n : Nat) (l : List F) (i : Nat), dropFG impS n l i = dropF n l i := by
  intro n
  induction n with
  | zero => intro l i; rfl
  | succ n ih => intro l i; unfold dropFG dropF; rw [ih, ih, redG_eq]
theorem minG_eq (l : List F) : minG impC l = minF l := by
  rw [impC_eq]
  unfold minG minF dropS
  rw [dropFG_eq, trimFG_eq]


end Go.Proofs.YtgahpgmagfngfaaGreatDoor


/- slices.Equal of a list that is read and one that the text writes out; literals. -/
namespace Go.Proofs.YtgahpgmagfngfaaGreatDoor
open Go.RowKit

theorem lit_call {fs : List F} {m : Nat} {o : Obj} (hm : m = fs.length) (hl : fs.length ≤ 1000) (ho : o = .cells (fs.flatMap cF).toArray 57) (w : World) :
    RdF (w.alloc o) (.slice (some ⟨w.heap.size, 0, none⟩) m m) fs ∧ Below w.heap.size w (w.alloc o) := by
  subst hm ho
  exact ⟨RdC.lit cF_length w fs _ hl (by decide), below_alloc _ _⟩
theorem mergeF_length (l : List F) : (mergeF l).length ≤ l.length := by
  have h1 : (mergeF l).length = (ordS (l.map (·.1))).length := by unfold mergeF; simp
  have h2 : (Go.Lib.compact (sortS (l.map (·.1)))).length ≤ (sortS (l.map (·.1))).length := by
    unfold Go.Lib.compact Go.Lib.compactUpTo
    rw [List.length_map]
    exact Nat.le_trans (List.length_filter_le _ _) (by simp)
  have h3 : (sortS (l.map (·.1))).length = l.length := by rw [(sortS_perm _).length_eq]; simp
  unfold ordS at h1; omega

end Go.Proofs.YtgahpgmagfngfaaGreatDoor


/- The walk of fdmine.Cover. -/
namespace Go.Proofs.YtgahpgmagfngfaaGreatDoor
open Go.RowKit
set_option linter.unusedVariables false



end Go.Proofs.YtgahpgmagfngfaaGreatDoor


/- Plain laws of the table that is built for a list of dependencies: no agree set of it breaks one, and every closed set is met by its irreducible ones. No program. -/
namespace Go.Proofs.YtgahpgmagfngfaaGreatDoor
open Go.RowKit
set_option linter.unusedVariables false
set_option linter.unusedSimpArgs false

/-- What the greater ones of some sets have in common. -/
def aboveB (s c : S) : Bool := c != s && (c &&& s == s)
def metS (A : S) (L : List S) (s : S) : S := L.foldl (fun c d => if aboveB s d = true then c &&& d else c) A
theorem metS_next {A s c : S} {L : List S} {k : Nat} (h : L[k]? = some c) : metS A (L.take (k + 1)) s = if aboveB s c = true then metS A (L.take k) s &&& c else metS A (L.take k) s := by
  unfold metS
  rw [List.take_add_one, h, List.foldl_append]
  rfl
def irrB (A : S) (L : List S) (s : S) : Bool := s != A && metS A L s != s
def irrL (A : S) (L : List S) : List S := L.filter (irrB A L)

/-- The rows of the table: the first one for all attributes, then one for each irreducible set. -/
def armV (n : Nat) (s : S) (k : Nat) : List V3 := (List.range n).map fun i => ((1, if s.getLsbD i then 0 else (k : Int), ByteArray.mk #[]) : V3)
def armR (n : Nat) (l : List S) : List (Int × List V3) := l.mapIdx fun k s => ((k : Int) + 1, armV n s k)
theorem armV_length (n : Nat) (s : S) (k : Nat) : (armV n s k).length = n := by simp [armV]
theorem armV_next (n : Nat) (s : S) (k : Nat) : armV (n + 1) s k = armV n s k ++ [((1, if s.getLsbD n then 0 else (k : Int), ByteArray.mk #[]) : V3)] := by
  unfold armV; rw [List.range_succ, List.map_append]; rfl
theorem armV_get {n : Nat} {s : S} {k i : Nat} (h : i < n) : (armV n s k).getD i noV = ((1, if s.getLsbD i then 0 else (k : Int), ByteArray.mk #[]) : V3) := by
  unfold armV
  rw [List.getD_eq_getElem?_getD, List.getElem?_map, List.getElem?_range h]; rfl
theorem num_eqV (a b : Int) : eqV ((1, a, ByteArray.mk #[]) : V3) ((1, b, ByteArray.mk #[]) : V3) = decide (a = b) := by
  rw [Bool.eq_iff_iff, eqV_iff, decide_eq_true_iff]; simp
/-- The agree set of two rows. -/
theorem arm_rows {n : Nat} {s t : S} {j k : Nat} (h32 : n ≤ 32) (hjk : j < k) (h0 : j = 0 → sub (fullN n) s) : rowsS (armV n s j) (armV n t k) n = s &&& t &&& fullN n := bv_ext fun i hi => by
  rw [rowsS_get _ _ _ _ hi, BitVec.getLsbD_and, BitVec.getLsbD_and, fullN_get _ _ hi]
  by_cases hn : i < n
  · rw [armV_get hn, armV_get hn, num_eqV, decide_eq_true hn, Bool.true_and, Bool.and_true]
    cases hs : s.getLsbD i with
    | true =>
      cases ht : t.getLsbD i with
      | true => simp
      | false => simp; omega
    | false =>
      have : j ≠ 0 := fun e => by have := h0 e i hi (by rw [fullN_get _ _ hi]; simpa using hn); rw [hs] at this; cases this
      cases ht : t.getLsbD i with
      | true => simp; omega
      | false => simp; omega
  · rw [decide_eq_false hn]; simp



end Go.Proofs.YtgahpgmagfngfaaGreatDoor


/- Plain laws: the dependencies of a table with at most six attributes are few; what is found in the table that is built for a list. No program. -/
namespace Go.Proofs.YtgahpgmagfngfaaGreatDoor
open Go.RowKit
set_option linter.unusedVariables false
set_option linter.unusedSimpArgs false

/-! An antichain of subsets of five attributes has at most ten members: ten chains cover them all. -/


/-- The table that is built. -/
def armT (n : Nat) (rs : List Row3) : T3 := (ByteArray.mk #[116], nameN n, rs)
theorem arm_name : nameB (ByteArray.mk #[116]) = true := by
  unfold nameB
  simp only [ByteArray.toList_eq]
  decide +kernel
theorem arm_row {n : Nat} {l : List S} {rs : List Row3} (h : rs.map (fun r => (r.1, r.2.2)) = armR n l) {j : Nat} {r : Row3} (hr : rs[j]? = some r) : ∃ s, l[j]? = some s ∧ r.1 = (j : Int) + 1 ∧ r.2.2 = armV n s j := by
  have e := congrArg (fun l => l[j]?) h
  unfold armR at e
  simp only [List.getElem?_map, List.getElem?_mapIdx, hr, Option.map_some] at e
  cases hs : l[j]? with
  | none => rw [hs] at e; simp at e
  | some s => rw [hs] at e; simp only [Option.map_some, Option.some.injEq, Prod.mk.injEq] at e; exact ⟨s, rfl, e.1, e.2⟩
theorem armV_ok {n : Nat} {s : S} {k : Nat} {x : V3} (h : x ∈ armV n s k) : ∃ m : Int, (m = 0 ∨ m = (k : Int)) ∧ x = numV m := by
  unfold armV at h
  obtain ⟨i, -, rfl⟩ := List.mem_map.1 h
  refine ⟨_, ?_, rfl⟩
  split
  · exact .inl rfl
  · exact .inr rfl
theorem arm_len {n : Nat} {l : List S} {rs : List Row3} (h : rs.map (fun r => (r.1, r.2.2)) = armR n l) : rs.length = l.length := by
  have := congrArg List.length h; simpa [armR] using this
theorem arm_tab {n : Nat} (hn : n ≤ 6) {l : List S} (hl : l.length ≤ 200) {rs : List Row3} (h : rs.map (fun r => (r.1, r.2.2)) = armR n l) : tabE (armT n rs) = 0 ∧ fE (armT n rs) = 0 ∧ kE (armT n rs) 0#32 true = 0 ∧ okT (armT n rs) ∧ Wide n rs := by
  have hlr := arm_len h
  have hna := nameN_length (show n ≤ 8 by omega)
  have h3 : rowsE 0 n rs = 0 := by
    refine rowsE_inc n rs 0 0 (fun j r hr => ?_) (by simp)
    obtain ⟨s, -, h1, h2⟩ := arm_row h hr
    refine ⟨by rw [h1]; simp, by rw [h2, armV_length], ?_⟩
    rw [h2, List.any_eq_false]
    intro x hx
    obtain ⟨m, -, rfl⟩ := armV_ok hx
    rw [numV_ok]; simp
  have h0 : tabE (armT n rs) = 0 := by
    unfold tabE armT
    simp only
    rw [arm_name, nm_attrs n, hna, if_neg (by simp), if_neg (by omega), if_neg (by simp)]
    exact h3
  have hw : Wide n rs := by
    intro r hr
    obtain ⟨j, hj, e⟩ := List.getElem_of_mem hr
    obtain ⟨s, -, h1, h2⟩ := arm_row h (show rs[j]? = some r by rw [List.getElem?_eq_getElem hj, e])
    rw [h2, armV_length]
  refine ⟨h0, ?_, ?_, ?_, hw⟩
  · unfold fE
    rw [if_neg (by simpa using h0), if_neg]
    show ¬ (10 < (nameN n).length ∨ 200 < rs.length)
    omega
  · unfold kE
    rw [if_neg (by simpa using h0), if_neg, if_neg (by simp)]
    show ¬ (200 < rs.length ∨ true = true ∧ 12 < (nameN n).length)
    omega
  · intro r hr x hx
    replace hr : r ∈ rs := hr
    obtain ⟨j, hj, e⟩ := List.getElem_of_mem hr
    obtain ⟨s, -, h1, h2⟩ := arm_row h (show rs[j]? = some r by rw [List.getElem?_eq_getElem hj, e])
    rw [h2] at hx
    obtain ⟨m, hm, rfl⟩ := armV_ok hx
    refine ⟨by have := numV_ok m; unfold badV at this; simpa using this, ?_⟩
    show -9223372036854775808 ≤ m ∧ m < 9223372036854775808
    omega


end Go.Proofs.YtgahpgmagfngfaaGreatDoor


/- The example of the theorems of layer 34, reckoned. No program. -/
namespace Go.Proofs.YtgahpgmagfngfaaGreatDoor
open Go.RowKit
set_option linter.unusedVariables false
set_option linter.unusedSimpArgs false

/-- What Synthesize returns. -/
noncomputable def synP (n : Int) (fs : List F) : List S := (mergeF (resM n fs)).map fun f => f.1 ||| f.2
noncomputable def synR (n : Int) (fs : List F) : List S := keepS upR (synP n fs ++ if (synP n fs).any (supB n fs) = true then [] else [rdS n fs (fullN n.toNat)])

def a34F : List F := [(1#32, 2#32), (2#32, 4#32)]
theorem a34_valid : validF 3 a34F = 0 := by decide +kernel
theorem a34_min : minF a34F = a34F := by rw [← minG_eq]; decide +kernel
theorem a34_merge : mergeF a34F = a34F := by
  have h : ordS (a34F.map (·.1)) = [1#32, 2#32] := ord_lit (b := [1#32, 2#32]) (by decide +kernel) (by decide)
  unfold mergeF
  rw [h]
  decide +kernel
theorem a34_res : mergeF (resM 3 a34F) = a34F := by unfold resM; rw [if_pos a34_valid, a34_min, a34_merge]
theorem a34_close : closeS a34F 3#32 = 7#32 := closeS_fix ((mid_refl a34F 3#32).pass) (by decide +kernel)
theorem a34_sup : supB 3 a34F 3#32 = true := (supB_iff a34_valid).2 ⟨by decide +kernel, by rw [a34_close]; decide⟩
theorem a34_syn : synR 3 a34F = [3#32, 6#32] := by
  have e : synP 3 a34F = [3#32, 6#32] := by unfold synP; rw [a34_res]; decide
  unfold synR
  rw [e, if_pos (List.any_eq_true.2 ⟨3#32, by simp, a34_sup⟩)]
  unfold keepS
  rw [ord_lit (a := [3#32, 6#32] ++ []) (b := [3#32, 6#32]) (by decide +kernel) (by decide)]
  decide +kernel

theorem a34_all8 : ∀ k, k < 8 → (decide (sub (BitVec.ofNat 32 k) (fullN 3)) && closedB a34F (BitVec.ofNat 32 k)) = decide (BitVec.ofNat 32 k ∈ [0#32, 4#32, 6#32, 7#32]) := by decide +kernel
theorem a34_closed {L : List S} (h : IsOrd L (fun s => sub s (fullN 3) ∧ closedF a34F s)) : L = [0#32, 4#32, 6#32, 7#32] := by
  refine h.uniq (q := fun s => s ∈ [0#32, 4#32, 6#32, 7#32]) ⟨by decide +kernel, fun s => Iff.rfl⟩ fun s => ?_
  have key : ∀ s : S, s.toNat < 8 → ((sub s (fullN 3) ∧ closedF a34F s) ↔ s ∈ [0#32, 4#32, 6#32, 7#32]) := by
    intro s hs
    have e : BitVec.ofNat 32 s.toNat = s := by simp
    have h1 := a34_all8 s.toNat hs
    rw [e] at h1
    unfold closedB at h1
    rw [Bool.eq_iff_iff, Bool.and_eq_true, decide_eq_true_iff, decide_eq_true_iff, decide_eq_true_iff] at h1
    exact h1
  constructor
  · intro hs
    exact (key s (full_pow (by decide) hs.1)).1 hs
  · intro hs
    refine (key s ?_).2 hs
    simp only [List.mem_cons, List.not_mem_nil, or_false] at hs
    rcases hs with rfl | rfl | rfl | rfl <;> decide
theorem a34_irr : fullN 3 :: irrL (fullN 3) [0#32, 4#32, 6#32, 7#32] = [7#32, 0#32, 4#32, 6#32] := by decide +kernel
theorem a34_pairs {rs : List Row3} (h : rs.map (fun r => (r.1, r.2.2)) = armR 3 [7#32, 0#32, 4#32, 6#32]) : pairsS rs = [0#32, 4#32, 6#32, 0#32, 0#32, 4#32] := by
  have e0 : armR 3 [7#32, 0#32, 4#32, 6#32] = [(((0 : Nat) : Int) + 1, armV 3 7#32 0), (((1 : Nat) : Int) + 1, armV 3 0#32 1), (((2 : Nat) : Int) + 1, armV 3 4#32 2), (((3 : Nat) : Int) + 1, armV 3 6#32 3)] := rfl
  rw [e0] at h
  match rs, h with
  | [(a, s1, x), (b, s2, y), (c, s3, z), (d, s4, u)], h =>
    simp only [List.map_cons, List.map_nil, List.cons.injEq, Prod.mk.injEq, and_true] at h
    obtain ⟨⟨-, rfl⟩, ⟨-, rfl⟩, ⟨-, rfl⟩, -, rfl⟩ := h
    have k : ∀ (s t : S) (i j : Nat), i < j → (i = 0 → s = 7#32) → rowsS (armV 3 s i) (armV 3 t j) 3 = s &&& t &&& fullN 3 := fun s t i j hij h0 => arm_rows (by decide) hij fun e => by rw [h0 e]; decide +kernel
    show [rowsS (armV 3 7#32 0) (armV 3 0#32 1) (armV 3 7#32 0).length, rowsS (armV 3 7#32 0) (armV 3 4#32 2) (armV 3 7#32 0).length, rowsS (armV 3 7#32 0) (armV 3 6#32 3) (armV 3 7#32 0).length,
      rowsS (armV 3 0#32 1) (armV 3 4#32 2) (armV 3 0#32 1).length, rowsS (armV 3 0#32 1) (armV 3 6#32 3) (armV 3 0#32 1).length, rowsS (armV 3 4#32 2) (armV 3 6#32 3) (armV 3 4#32 2).length] = _
    rw [armV_length, armV_length, armV_length, k _ _ 0 1 (by decide) (fun _ => rfl), k _ _ 0 2 (by decide) (fun _ => rfl), k _ _ 0 3 (by decide) (fun _ => rfl), k _ _ 1 2 (by decide) (fun e => by cases e), k _ _ 1 3 (by decide) (fun e => by cases e), k _ _ 2 3 (by decide) (fun e => by cases e)]
    decide
theorem key_litT {xs ys : List S} (hv : ∀ x ∈ xs, x.toNat < 8) (hp : ys.Pairwise bef) (h : ∀ k, k < 8 → (minS xs (BitVec.ofNat 32 k) = true ↔ BitVec.ofNat 32 k ∈ ys)) (hb : ∀ y ∈ ys, y.toNat < 8) : allS xs = ys := by
  refine allS_check xs ys 3 8 (by decide) (fun x hx i hi h3 => ?_) hp h hb
  have h1 := hv x hx
  rw [BitVec.getLsbD, Nat.testBit_lt_two_pow]
  have : 2 ^ 3 ≤ 2 ^ i := Nat.pow_le_pow_right (by decide) h3
  omega
variable {rs : List Row3} (h : rs.map (fun r => (r.1, r.2.2)) = armR 3 [7#32, 0#32, 4#32, 6#32])
include h
theorem a34_tab : tabE (armT 3 rs) = 0 ∧ fE (armT 3 rs) = 0 ∧ kE (armT 3 rs) 0#32 true = 0 ∧ okT (armT 3 rs) ∧ Wide 3 rs := arm_tab (by decide) (by decide) h
theorem a34_for0 : forL 3 rs 0 = [] := by
  rw [for_key (a34_tab h).2.2.2.2 (by decide) (by decide), a34_pairs h]
  have e : edgS (othS 3 0) (withoutS [0#32, 4#32, 6#32, 0#32, 0#32, 4#32] 0) = [6#32, 2#32, 0#32, 6#32, 6#32, 2#32] := by decide +kernel
  unfold keyO
  rw [e]
  exact key_litT (by intro x hx; simp only [List.mem_cons, List.not_mem_nil, or_false] at hx; rcases hx with rfl | rfl | rfl | rfl | rfl | rfl <;> decide) List.Pairwise.nil (by decide +kernel) (by intro x hx; cases hx)
theorem a34_for1 : forL 3 rs 1 = [1#32] := by
  rw [for_key (a34_tab h).2.2.2.2 (by decide) (by decide), a34_pairs h]
  have e : edgS (othS 3 1) (withoutS [0#32, 4#32, 6#32, 0#32, 0#32, 4#32] 1) = [5#32, 1#32, 5#32, 5#32, 1#32] := by decide +kernel
  unfold keyO
  rw [e]
  exact key_litT (by intro x hx; simp only [List.mem_cons, List.not_mem_nil, or_false] at hx; rcases hx with rfl | rfl | rfl | rfl | rfl <;> decide) (by decide +kernel) (by decide +kernel) (by intro x hx; simp only [List.mem_cons, List.not_mem_nil, or_false] at hx; rcases hx with rfl; decide)
theorem a34_for2 : forL 3 rs 2 = [1#32, 2#32] := by
  rw [for_key (a34_tab h).2.2.2.2 (by decide) (by decide), a34_pairs h]
  have e : edgS (othS 3 2) (withoutS [0#32, 4#32, 6#32, 0#32, 0#32, 4#32] 2) = [3#32, 3#32, 3#32] := by decide +kernel
  unfold keyO
  rw [e]
  exact key_litT (by intro x hx; simp only [List.mem_cons, List.not_mem_nil, or_false] at hx; rcases hx with rfl | rfl | rfl <;> decide) (by decide +kernel) (by decide +kernel) (by intro x hx; simp only [List.mem_cons, List.not_mem_nil, or_false] at hx; rcases hx with rfl | rfl <;> decide)
theorem a34_allR : allR (armT 3 rs) = [(1#32, 2#32), (1#32, 4#32), (2#32, 4#32)] := by
  have hf := (a34_tab h).2.1
  have h1 : allR (armT 3 rs) = bndL 3 rs 16 := by unfold allR; rw [if_pos hf]; rfl
  rw [h1]
  refine ordF_uniq (bndG_ord (by decide)) (by decide +kernel) fun f => ?_
  rw [← h1, mem_allR hf]
  show (∃ a : Nat, a < 3 ∧ f.1 ∈ forL 3 rs a ∧ f.2 = bit a) ↔ _
  constructor
  · rintro ⟨a, ha, hf, e⟩
    rcases (show a = 0 ∨ a = 1 ∨ a = 2 by omega) with rfl | rfl | rfl
    · rw [a34_for0 h] at hf; cases hf
    · rw [a34_for1 h, List.mem_singleton] at hf
      exact List.mem_cons.2 (.inl (Prod.ext hf e))
    · rw [a34_for2 h] at hf
      simp only [List.mem_cons, List.not_mem_nil, or_false] at hf
      rcases hf with hf | hf
      · exact List.mem_cons_of_mem _ (List.mem_cons.2 (.inl (Prod.ext hf e)))
      · exact List.mem_cons_of_mem _ (List.mem_cons_of_mem _ (List.mem_singleton.2 (Prod.ext hf e)))
  · intro hf
    simp only [List.mem_cons, List.not_mem_nil, or_false] at hf
    rcases hf with rfl | rfl | rfl
    · exact ⟨1, by decide, by rw [a34_for1 h]; simp, by decide⟩
    · exact ⟨2, by decide, by rw [a34_for2 h]; simp, by decide⟩
    · exact ⟨2, by decide, by rw [a34_for2 h]; simp, by decide⟩
theorem a34_keys : kallL (armT 3 rs) = [1#32] := by
  unfold kallL
  rw [if_pos (a34_tab h).2.2.1]
  show keyN 3 (pairsS rs) = _
  rw [a34_pairs h]
  have e : edgN 3 [0#32, 4#32, 6#32, 0#32, 0#32, 4#32] = [7#32, 3#32, 1#32, 7#32, 7#32, 3#32] := by decide +kernel
  unfold keyN
  rw [e]
  exact key_litT (by intro x hx; simp only [List.mem_cons, List.not_mem_nil, or_false] at hx; rcases hx with rfl | rfl | rfl | rfl | rfl | rfl <;> decide) (by decide +kernel) (by decide +kernel) (by intro x hx; simp only [List.mem_cons, List.not_mem_nil, or_false] at hx; rcases hx with rfl; decide)

end Go.Proofs.YtgahpgmagfngfaaGreatDoor


/- The walks of armstrong: full, check, Irreducible. -/
namespace Go.Proofs.YtgahpgmagfngfaaGreatDoor
open Go.RowKit
set_option linter.unusedVariables false

theorem rfull_any (m : Nat) (hm : m ≤ 16) (w : World) :
    Calls Tryz.prog 30 #[.int .i64 (m : Int)] w fun e w' => e = .returned (.int .u32 (iv (fullN m))) ∧ w = w' := by
  have E := hid (shl_fullK hm)
  have m0 : (0 : Int) ≤ (m : Int) := by omega
  rw [← E.out]
  go_enter Tryz.func30, Tryz.ntmps30
  go_wp2_with fail
  go_ret
  exact ⟨rfl, rfl⟩
theorem rcheck_any (m : Nat) (hm : m ≤ 10) (fs : List F) (v : Value) (w : World) (hv : RdF w v fs) (hq : validF (m : Int) fs = 0) :
    Calls Tryz.prog 60 #[.int .i64 (m : Int), v] w fun e w' => e = .returned (.int .i64 0) ∧ Below w.heap.size w w' := by
  have VA := hid (validF_any (m : Int) fs v w hv)
  rw [hq] at VA
  obtain ⟨ao, cap, rfl⟩ := hv.form
  have c0 : decide ((m : Int) > 10) = false := by rw [decide_eq_false_iff_not]; omega
  have c1 : decide ((10 : Int) < (m : Int)) = false := by rw [decide_eq_false_iff_not]; omega
  have HM := hid hm
  clear hv hq hm
  go_enter Tryz.func60, Tryz.ntmps60
  go_wp2_with fail
  refine VA.out.mono ?_
  rintro e w1 ⟨rfl, hb1⟩
  have B1 := hid hb1
  clear hb1
  go_wp2_with fail
  go_ret
  exact ⟨rfl, B1.out⟩

theorem closed_short {m : Nat} (hm : m ≤ 6) {fs : List F} {L : List S} (h : IsOrd L (fun s => sub s (fullN m) ∧ closedF fs s)) : L.length ≤ 64 := by
  have h1 : L.length ≤ 2 ^ m := ord_bound h.1 fun s hs => full_pow (by omega) ((h.2 s).1 hs).1
  have h2 : 2 ^ m ≤ 2 ^ 6 := Nat.pow_le_pow_right (by decide) hm
  omega
set_option maxHeartbeats 1600000 in
set_option maxRecDepth 100000 in
theorem irr_any (m : Nat) (hm : m ≤ 6) (fs : List F) (v : Value) (w : World) (hv : RdF w v fs) (hq : validF (m : Int) fs = 0) :
    Calls Tryz.prog 29 #[.int .i64 (m : Int), v] w fun e w' => ∃ v' L, e = .returned (.tuple #[v', .int .i64 0]) ∧ w'.ownsRow w.heap.size 55 1 v' (irrL (fullN m) L).length ((irrL (fullN m) L).map enc) ∧ IsOrd L (fun s => sub s (fullN m) ∧ closedF fs s) ∧ L.length ≤ 64 ∧ Below w.heap.size w w' := by
  have CK := hid (rcheck_any m (by omega) fs v w hv hq)
  have CL := hid (fun (W : World) (h : Below w.heap.size w W) => closed_ok (m : Int) fs v W (hv.below h) (by omega) (by omega) hq)
  have e0 : cloE (m : Int) fs = 0 := (cloE_mid (by omega) (by omega)).trans hq
  have CP := hid (fun (L : List S) (h : ClosedP (m : Int) fs L) => show IsOrd L (fun s => sub s (fullN m) ∧ closedF fs s) from h.2 e0)
  rw [e0] at CL
  have CS := hid (fun (L : List S) (h : IsOrd L (fun s => sub s (fullN m) ∧ closedF fs s)) => closed_short hm h)
  have FU := hid (fun (W : World) => rfull_any m (by omega) W)
  obtain ⟨fu, hfu⟩ : ∃ fu, fullN m = fu := ⟨_, rfl⟩
  rw [hfu] at FU CP CS ⊢
  obtain ⟨ao, cap, rfl⟩ := hv.form
  clear hv hq e0 hfu
  go_enter Tryz.func29, Tryz.ntmps29
  go_wp2_with fail
  refine CK.out.mono ?_
  rintro e w1 ⟨rfl, hb1⟩
  have B1 := hid hb1
  clear hb1 CK
  go_wp2_with fail
  refine (CL.out _ B1.out).mono ?_
  rintro e w2 ⟨v2, L, rfl, ho2, hp2, -, hb2⟩
  have OL := hid (CP.out L hp2)
  have L64 := hid (CS.out L OL.out)
  have B2 := hid (B1.out.trans (hb2.mono B1.out.size))
  have R2 := hid (RdE.of_owns ho2 (by have := L64.out; omega))
  obtain ⟨lo, lcap, rfl, -, hlc⟩ := R2.out.split
  have LC := hid hlc
  have hs2 := B2.out.size
  clear ho2 hp2 hb2 hlc CL CP CS
  go_wp2_with fail
  go_loopw [9, 32] (fun u i wr => ∃ k : Nat, k ≤ L.length ∧ i = .int .i64 k ∧ wr.ownsRow w2.heap.size 55 1 u ((L.take k).filter (irrB fu L)).length (((L.take k).filter (irrB fu L)).map enc) ∧ Below w2.heap.size w2 wr) (fun _ i _ => L.length - (intOf i).toNat)
  case atStart => exact ⟨0, Nat.zero_le _, rfl, World.ownsRow_nil _ _ _ _, Below.refl _ _⟩
  case round =>
    obtain ⟨k, hk, rfl, hown, hnx⟩ := hrel
    have hsz := hnx.size
    have hfl : ((L.take k).filter (irrB fu L)).length ≤ 64 := Nat.le_trans (List.length_filter_le _ _) (by have := List.length_take_le' k L; have := L64.out; omega)
    by_cases hlt : k < L.length
    · obtain ⟨s, hs⟩ := get_some hlt
      obtain ⟨b, off, rfl, hd⟩ := LC.out k s hs
      have e0 := hd wr hnx
      unfold enc at e0
      have FN := hid (show (L.take (k + 1)).filter (irrB fu L) = (L.take k).filter (irrB fu L) ++ if irrB fu L s = true then [s] else [] by rw [take_next hs, List.filter_append, List.filter_cons, List.filter_nil])
      obtain ⟨out, hout⟩ : ∃ out, (L.take k).filter (irrB fu L) = out := ⟨_, rfl⟩
      rw [hout] at hown hfl FN
      have HO := hid hown
      have HN := hid hnx
      have HF := hid hfl
      have HLT := hid hlt
      have IB := hid (show irrB fu L s = (s != fu && metS fu L s != s) from rfl)
      have LD := hid (fun (j : Nat) (c : S) (h : L[j]? = some c) => show wr.cell? ⟨b, off + j, none⟩ = some (.int .u32 (iv c)) from by
        obtain ⟨b', off', e, h2⟩ := LC.out j c h
        have h3 := h2 wr hnx
        unfold enc at h3
        simp only [Option.some.injEq, Addr.mk.injEq, and_true] at e
        obtain ⟨rfl, rfl⟩ := e
        exact h3)
      clear hd hs hout hown hnx hfl hlt
      obtain ⟨wo, rfl⟩ : ∃ wo : World, wo = wr := ⟨_, rfl⟩
      go_wp2_with fail
      refine (FU.out _).mono ?_
      rintro e w' ⟨rfl, rfl⟩
      go_wp2_with fail
      go_loopw [12, 40] (fun c i wr => ∃ j : Nat, j ≤ L.length ∧ i = .int .i64 j ∧ c = .int .u32 (iv (metS fu (L.take j) s)) ∧ wr = wo) (fun _ i _ => L.length - (intOf i).toNat)
      case atStart => exact ⟨0, Nat.zero_le _, rfl, rfl, rfl⟩
      case round =>
        obtain ⟨j, hj, rfl, rfl, rfl⟩ := hrel
        have j0 : (0 : Int) ≤ (j : Int) := by omega
        have j1 : (j : Int) ≤ 64 := by have := L64.out; omega
        by_cases hlj : j < L.length
        · obtain ⟨c, hc⟩ := get_some hlj
          have e1 := LD.out j c hc
          have MN := hid (metS_next (A := fu) (s := s) hc)
          have AB := hid (show aboveB s c = (c != s && (c &&& s == s)) from rfl)
          have HLJ := hid hlj
          clear hc hlj
          obtain ⟨mt, hmt⟩ : ∃ mt, metS fu (L.take j) s = mt := ⟨_, rfl⟩
          rw [hmt] at MN ⊢
          clear hmt
          cases h1 : c != s with
          | false =>
            have AF := hid (show metS fu (L.take (j + 1)) s = mt by rw [MN.out, if_neg (by rw [AB.out, h1]; simp)])
            go_wp2_with fail
            go_roundw
            case rel => exact ⟨j + 1, by have := HLJ.out; omega, by go_num, by rw [AF.out], by first | rfl | trivial⟩
            case measure => have := HLJ.out; simp [intOf]; omega
          | true =>
            cases h2 : c &&& s == s with
            | false =>
              have AF := hid (show metS fu (L.take (j + 1)) s = mt by rw [MN.out, if_neg (by rw [AB.out, h1, h2]; simp)])
              go_wp2_with fail
              go_roundw
              case rel => exact ⟨j + 1, by have := HLJ.out; omega, by go_num, by rw [AF.out], by first | rfl | trivial⟩
              case measure => have := HLJ.out; simp [intOf]; omega
            | true =>
              have AF := hid (show metS fu (L.take (j + 1)) s = mt &&& c by rw [MN.out, if_pos (by rw [AB.out, h1, h2]; rfl)])
              go_wp2_with fail
              go_roundw
              case rel => exact ⟨j + 1, by have := HLJ.out; omega, by go_num, by rw [AF.out], by first | rfl | trivial⟩
              case measure => have := HLJ.out; simp [intOf]; omega
        · have hje : L.length ≤ j := by omega
          rw [List.take_of_length_le hje]
          obtain ⟨mt, hmt⟩ : ∃ mt, metS fu L s = mt := ⟨_, rfl⟩
          rw [hmt] at IB ⊢
          clear hmt hje
          cases h1 : s != fu with
          | false =>
            have FN2 := hid (show (L.take (k + 1)).filter (irrB fu L) = out by rw [FN.out, if_neg (by rw [IB.out, h1]; simp), List.append_nil])
            go_wp2_with fail
            refine (FU.out _).mono ?_
            rintro e w' ⟨rfl, rfl⟩
            go_wp2_with fail
            go_roundw
            case rel => exact ⟨k + 1, by have := HLT.out; omega, by go_num, by rw [FN2.out]; exact HO.out, HN.out⟩
            case measure => have := HLT.out; simp [intOf]; omega
          | true =>
            cases h2 : mt != s with
            | false =>
              have FN2 := hid (show (L.take (k + 1)).filter (irrB fu L) = out by rw [FN.out, if_neg (by rw [IB.out, h1, h2]; simp), List.append_nil])
              go_wp2_with fail
              refine (FU.out _).mono ?_
              rintro e w' ⟨rfl, rfl⟩
              go_wp2_with fail
              go_roundw
              case rel => exact ⟨k + 1, by have := HLT.out; omega, by go_num, by rw [FN2.out]; exact HO.out, HN.out⟩
              case measure => have := HLT.out; simp [intOf]; omega
            | true =>
              have FN2 := hid (show (L.take (k + 1)).filter (irrB fu L) = out ++ [s] by rw [FN.out, if_pos (by rw [IB.out, h1, h2]; rfl)])
              go_wp2_with fail
              refine (FU.out _).mono ?_
              rintro e w' ⟨rfl, rfl⟩
              go_wp2_with (at_builtin; refine wpList_push rfl _ _ 59 rfl w2.heap.size 55 (.int .u32 0) 4 undSets infoSet rfl (by decide) enc (fun _ => rfl) _ out rfl (HO.out.alloc _) ⟨wr.heap.size, 0, none⟩ s rfl (by simp [enc]) (by have := HF.out; omega) (by simp; omega) ?_)
              intro v' w4 hown' hgrow
              have N4 := hid (below_push HN.out hsz HO.out hgrow)
              have O4 := hid (show w4.ownsRow w2.heap.size 55 1 v' (out ++ [s]).length ((out ++ [s]).map enc) by simpa using hown')
              clear hown' hgrow
              go_wp2_with fail
              go_roundw
              case rel => exact ⟨k + 1, by have := HLT.out; omega, by go_num, by rw [FN2.out]; exact O4.out, N4.out⟩
              case measure => have := HLT.out; simp [intOf]; omega
    · have hke : L.length ≤ k := by omega
      rw [List.take_of_length_le hke] at hown
      have BF := hid (B2.out.trans (hnx.mono hs2))
      have OF := hid (own_mono hown hs2)
      clear hown hnx hke
      go_wp2_with fail
      go_ret2
      exact ⟨_, L, rfl, OF.out, OL.out, L64.out, BF.out⟩

end Go.Proofs.YtgahpgmagfngfaaGreatDoor


/- The walk of armstrong.Build. -/
namespace Go.Proofs.YtgahpgmagfngfaaGreatDoor
open Go.RowKit
set_option linter.unusedVariables false
set_option linter.unusedSimpArgs false

theorem name_next {k : Nat} (h : k < 6) : nameN (k + 1) = nameN k ++ [Utf8.encode (97 + (k : Int))] := by
  rcases (show k = 0 ∨ k = 1 ∨ k = 2 ∨ k = 3 ∨ k = 4 ∨ k = 5 by omega) with rfl | rfl | rfl | rfl | rfl | rfl <;> rfl
theorem RdE.grown {α : Type} {f : α → Value} {w w' : World} {v : Value} {xs : List α} {o : Option Nat} (h : RdE f w v xs) (hg : w.grownBy w' o) (hf : FarV v o) : RdE f w' v xs := by
  obtain ⟨ao, cap, rfl, h1, h2, h3⟩ := h
  refine ⟨ao, cap, rfl, h1, h2, fun hp => ?_⟩
  obtain ⟨b, off, rfl, hlt, hc⟩ := h3 hp
  refine ⟨b, off, rfl, Nat.lt_of_lt_of_le hlt hg.size, fun j x hx => ?_⟩
  exact (World.cell?_of_block (a := ⟨b, off + j, none⟩) (hg.block b hlt (fun e => hf _ _ _ rfl hp e.symm))).trans (hc j x hx)
theorem RdE.blk {α : Type} {f : α → Value} {w : World} {v : Value} {xs : List α} (h : RdE f w v xs) {j : Nat} (hj : w.heap.size ≤ j) : FarV v (some j) := by
  obtain ⟨ao, cap, rfl, -, -, h3⟩ := h
  intro a len cap' e1 hl e2
  cases e1
  obtain ⟨b, off, e4, hlt, -⟩ := h3 hl
  cases e4; simp at e2; omega
theorem RdC.blk {α : Type} {c : α → List Value} {w : World} {v : Value} {xs : List α} (h : RdC c w v xs) {j : Nat} (hj : w.heap.size ≤ j) : FarV v (some j) := by
  obtain ⟨ao, cap, rfl, -, -, h3⟩ := h
  intro a len cap' e1 hl e2
  cases e1
  obtain ⟨b, off, e4, hlt, -⟩ := h3 hl
  cases e4; simp at e2; omega

theorem flat_one {α : Type} (f : α → Value) (xs : List α) : xs.flatMap (fun x => [f x]) = xs.map f := by
  induction xs with
  | nil => rfl
  | cons x xs ih => rw [List.flatMap_cons, ih]; rfl
theorem RdE.toC {α : Type} {f : α → Value} {w : World} {v : Value} {xs : List α} (h : RdE f w v xs) : RdC (fun x => [f x]) w v xs := by
  obtain ⟨ao, cap, rfl, h1, h2, h3⟩ := h
  refine ⟨ao, cap, rfl, h1, h2, fun hp => ?_⟩
  obtain ⟨b, off, rfl, hlt, hc⟩ := h3 hp
  refine ⟨b, off, rfl, hlt, fun j u hu => ?_⟩
  rw [flat_one, List.getElem?_map] at hu
  obtain ⟨x, hx, rfl⟩ := Option.map_eq_some_iff.1 hu
  exact hc j x hx
theorem bit_zeroN (s : S) (k : Nat) : (s >>> k &&& 1#32 == 0#32) = !s.getLsbD k := by
  have h := bit_test s k
  have h1 : (1 : Int) = iv 1#32 := by decide
  rw [h1, iv_beq] at h
  have h2 : s >>> k &&& 1#32 = 0#32 ∨ s >>> k &&& 1#32 = 1#32 := by
    cases hb : s.getLsbD k with
    | true => rw [hb] at h; exact .inr (by simpa using h)
    | false =>
      refine .inl ?_
      apply BitVec.eq_of_getLsbD_eq
      intro i hi
      cases i with
      | zero => simpa using hb
      | succ i => simp [BitVec.getLsbD_one]
  rw [← h]
  rcases h2 with e | e <;> rw [e] <;> decide
def cT (s : ByteArray) : List Value := [encT s]
theorem cT_one : ∀ y, ∀ u ∈ cT y, u.oneCell' = true := by intro y u hu; simp [cT] at hu; rw [hu]; rfl
theorem cells_newT (w : World) (x : ByteArray) {t : TypeId} : ∀ j u, (cT x)[j]? = some u → (w.alloc (.cells #[.string x] t)).cell? (Addr.add ⟨w.heap.size, 0, none⟩ j) = some u := by
  intro j u hj
  have hj2 : j < 1 := (List.getElem?_eq_some_iff.1 hj).1
  obtain rfl : j = 0 := by omega
  simp [cT, encT] at hj; subst hj; simp [Addr.add]
theorem i32_small {k : Nat} (h : k < 6) : IntKind.i32.wrap (97 + (k : Int)) = 97 + (k : Int) := by
  rcases (show k = 0 ∨ k = 1 ∨ k = 2 ∨ k = 3 ∨ k = 4 ∨ k = 5 by omega) with rfl | rfl | rfl | rfl | rfl | rfl <;> decide

/-- What Build leaves. -/
def BuildPost (m : Nat) (fs : List F) (w : World) (e : Ending) (w' : World) : Prop := ∃ (av tv : Value) (L : List S) (rs : List Row3), e = .returned (.tuple #[.agg #[.string (ByteArray.mk #[116]), av, tv], .int .i64 0]) ∧ RdT w' av tv (armT m rs) ∧ rs.map (fun r => (r.1, r.2.2)) = armR m (fullN m :: irrL (fullN m) L) ∧ IsOrd L (fun s => sub s (fullN m) ∧ closedF fs s) ∧ L.length ≤ 64 ∧ Below w.heap.size w w'
/-- What the second loop keeps: the names and the sets, which lie in no block that it writes. -/
def Kp (av u : Value) (ats : List ByteArray) (sl : List S) (tb : Nat) (o : Option Nat) (W : World) : Prop := RdE encT W av ats ∧ RdE enc W u sl ∧ FarV av (some tb) ∧ FarV u (some tb) ∧ FarV av o ∧ FarV u o
theorem Kp.below {av u : Value} {ats : List ByteArray} {sl : List S} {tb : Nat} {o : Option Nat} {W W' : World} (h : Kp av u ats sl tb o W) (hb : Below W.heap.size W W') : Kp av u ats sl tb o W' := ⟨h.1.below hb, h.2.1.below hb, h.2.2⟩
theorem Kp.grown {av u : Value} {ats : List ByteArray} {sl : List S} {tb : Nat} {o o' : Option Nat} {W W' : World} (h : Kp av u ats sl tb o W) (hg : W.grownBy W' o) (ho : o' = o ∨ o' = some W.heap.size) : Kp av u ats sl tb o' W' := by
  obtain ⟨h1, h2, h3, h4, h5, h6⟩ := h
  refine ⟨h1.grown hg h5, h2.grown hg h6, h3, h4, ?_, ?_⟩
  · rcases ho with e | e
    · rw [e]; exact h5
    · rw [e]; exact h1.blk (Nat.le_refl _)
  · rcases ho with e | e
    · rw [e]; exact h6
    · rw [e]; exact h2.blk (Nat.le_refl _)
theorem Kp.set {av u x : Value} {ats : List ByteArray} {sl : List S} {tb i : Nat} {o : Option Nat} {W : World} (h : Kp av u ats sl tb o W) : Kp av u ats sl tb o (W.setCell ⟨tb, i, none⟩ x) :=
  ⟨RdE.setFar (p := ⟨tb, i, none⟩) h.1 h.2.2.1, RdE.setFar (p := ⟨tb, i, none⟩) h.2.1 h.2.2.2.1, h.2.2⟩

set_option maxHeartbeats 3200000 in
set_option maxRecDepth 100000 in
theorem build_any (m : Nat) (fs : List F) (v : Value) (w : World) (hv : RdF w v fs) (hm : m ≤ 6) (hq : validF (m : Int) fs = 0) :
    Calls Tryz.prog 12 #[.int .i64 (m : Int), v] w (BuildPost m fs w) := by
  have hb0 := below_alloc w (.cells #[.string (ByteArray.mk #[]), .slice none 0 0, .slice none 0 0] 48)
  have Z3 := hid (fun (W : World) (h : Below (w.alloc (.cells #[.string (ByteArray.mk #[]), .slice none 0 0, .slice none 0 0] 48)).heap.size (w.alloc (.cells #[.string (ByteArray.mk #[]), .slice none 0 0, .slice none 0 0] 48)) W) => And.intro (cells3 (w := w) (a := .string (ByteArray.mk #[])) (b := .slice none 0 0) (c := .slice none 0 0) (t := 48) W h) (show ∀ i : Nat, W.frozen? ⟨w.heap.size, i, none⟩ = false from fun i => (h.frozen (p := ⟨w.heap.size, i, none⟩) (by simp)).trans (by simp)))
  have hs0 : (w.alloc (.cells #[.string (ByteArray.mk #[]), .slice none 0 0, .slice none 0 0] 48)).heap.size = w.heap.size + 1 := by simp
  have IR := hid (irr_any m hm fs v _ (hv.below hb0) hq)
  have FU := hid (fun (W : World) => rfull_any m (by omega) W)
  obtain ⟨vo, vcap, rfl⟩ := hv.form
  obtain ⟨w0, hw0⟩ : ∃ w0 : World, w.alloc (.cells #[.string (ByteArray.mk #[]), .slice none 0 0, .slice none 0 0] 48) = w0 := ⟨_, rfl⟩
  rw [hw0] at hb0 Z3 hs0 IR
  have B0 := hid hb0
  have W0 := hid hw0
  have HS0 := hid hs0
  have hsz0 := hb0.size
  have HM := hid hm
  obtain ⟨fu, hfu⟩ : ∃ fu, fullN m = fu := ⟨_, rfl⟩
  rw [hfu] at IR FU
  have HFU := hid hfu
  clear hb0 hw0 hs0 hv hq hfu
  have n0 : (0 : Int) ≤ (m : Int) := by omega
  have n6 : (m : Int) ≤ 6 := by omega
  go_enter Tryz.func12, Tryz.ntmps12
  go_wp2_with fail
  rw [W0.out]
  go_wp2_with fail
  refine IR.out.mono ?_
  rintro e w1 ⟨v1, L, rfl, ho1, hL, hL64, hb1⟩
  have OL := hid hL
  have L64 := hid hL64
  have B1 := hid hb1
  have IL := hid (show (irrL fu L).length ≤ 64 from Nat.le_trans (List.length_filter_le _ _) hL64)
  have R1 := hid (RdE.of_owns ho1 (by have := IL.out; omega))
  obtain ⟨il, hil⟩ : ∃ il, irrL fu L = il := ⟨_, rfl⟩
  rw [hil] at R1 IL
  have HIL := hid hil
  obtain ⟨io, icap, rfl, -⟩ := R1.out.split
  have hs1 := hb1.size
  have hbt := below_alloc w1 (.cells #[.string (ByteArray.mk #[116]), .slice none 0 0, .slice none 0 0] 48)
  have T3' := cells3 (w := w1) (a := .string (ByteArray.mk #[116])) (b := .slice none 0 0) (c := .slice none 0 0) (t := 48) _ (Below.refl _ _)
  have hf1 : (w1.alloc (.cells #[.string (ByteArray.mk #[116]), .slice none 0 0, .slice none 0 0] 48)).frozen? ⟨w1.heap.size, 1, none⟩ = false := by simp
  have hf2 : (w1.alloc (.cells #[.string (ByteArray.mk #[116]), .slice none 0 0, .slice none 0 0] 48)).frozen? ⟨w1.heap.size, 2, none⟩ = false := by simp
  have ST := hid (And.intro T3' (And.intro hf1 (And.intro hf2 hbt)))
  clear ho1 hL hL64 hb1 hil hbt T3' hf1 hf2 IR
  obtain ⟨tb, htb⟩ : ∃ tb, w1.heap.size = tb := ⟨_, rfl⟩
  have HTB := hid htb
  go_wp2_with fail
  rw [HTB.out] at ST
  clear htb
  try rw [HTB.out]
  go_loopw [27] (fun i wr => ∃ (k : Nat) (av : Value), k ≤ m ∧ i = .int .i64 k ∧ (wr.cell? ⟨tb, 0, none⟩ = some (.string (ByteArray.mk #[116])) ∧ wr.cell? ⟨tb, 1, none⟩ = some av ∧ wr.cell? ⟨tb, 2, none⟩ = some (.slice none 0 0)) ∧ (wr.frozen? ⟨tb, 1, none⟩ = false ∧ wr.frozen? ⟨tb, 2, none⟩ = false) ∧ wr.ownsRow (tb + 1) 9 1 av (nameN k).length ((nameN k).map encT) ∧ Below tb w1 wr) (fun i _ => m - (intOf i).toNat)
  case atStart => exact ⟨0, _, Nat.zero_le _, rfl, ST.out.1, ⟨ST.out.2.1, ST.out.2.2.1⟩, World.ownsRow_nil _ _ _ _, by rw [← HTB.out]; exact HTB.out ▸ ST.out.2.2.2⟩
  case round =>
    obtain ⟨k, av, hk, rfl, ⟨t0, t1, t2⟩, ⟨tf1, tf2⟩, hown, hnx⟩ := hrel
    have hso : tb < wr.heap.size := World.block_lt_of_cell? _ _ t0
    have hnl : (nameN k).length = k := nameN_length (by omega)
    have j0 : (0 : Int) ≤ (k : Int) := by omega
    by_cases hlt : k < m
    · have j5 : (k : Int) ≤ 5 := by omega
      have NN := hid (name_next (show k < 6 by omega))
      have hw1 : IntKind.i32.wrap (97 + (k : Int)) = 97 + (k : Int) := i32_small (by omega)
      have HNE := hid (show some tb ≠ av.ownBlock from fun e => Nat.not_succ_le_self _ (hown.lt _ e.symm).1)
      have HO := hid hown
      have HNX := hid hnx
      have HNL := hid (show (nameN k).length ≤ 8 by omega)
      have TT := hid (And.intro t0 (And.intro t1 (And.intro t2 (And.intro tf1 tf2))))
      have HLT := hid hlt
      clear hown hnx hnl hlt
      go_wp2_with (at_builtin; refine wpList_pushC rfl _ _ 45 rfl (tb + 1) 9 (.string (ByteArray.mk #[])) 1 16 undStrs infoStr rfl (by decide) (by decide) cT (fun _ => rfl) cT_one _ (nameN k) rfl ((show wr.ownsRow (tb + 1) 9 1 av (nameN k).length ((nameN k).flatMap cT) by rw [show (nameN k).flatMap cT = (nameN k).map encT from flat_one _ _]; exact HO.out).alloc _) ⟨wr.heap.size, 0, none⟩ (Utf8.encode (97 + (k : Int))) rfl (cells_newT wr _) (by have := HNL.out; omega) (by simp; omega) ?_)
      intro v2 w2 hown2' hg2
      have hown2 : w2.ownsRow (tb + 1) 9 1 v2 (nameN (k + 1)).length ((nameN (k + 1)).map encT) := by rw [NN.out, ← show (nameN k ++ [Utf8.encode (97 + (k : Int))]).flatMap cT = _ from flat_one _ _]; simpa using hown2'
      have NL2 := hid (show (nameN (k + 1)).length ≤ 8 by rw [NN.out, List.length_append, List.length_singleton]; have := nameN_length (show k ≤ 8 by omega); omega)
      clear hown2'
      obtain ⟨ats, hats⟩ : ∃ ats, nameN (k + 1) = ats := ⟨_, rfl⟩
      have HAT := hid hats
      rw [hats] at hown2 NL2
      clear hats
      obtain ⟨ao2, an2, cap2, rfl⟩ : ∃ ao n cap, v2 = .slice ao n cap := by obtain ⟨a, c, h, -⟩ := (RdE.of_owns hown2 (by have := NL2.out; omega)).split; exact ⟨a, _, c, h⟩
      have la : tb < (wr.alloc (.cells #[.string (Utf8.encode (97 + (k : Int)))] 9)).heap.size := by simp; omega
      have u0 := (hg2.cell_far ⟨tb, 0, none⟩ la HNE.out).trans (((below_alloc wr _).cell (p := ⟨tb, 0, none⟩) hso).trans t0)
      have u1 := (hg2.cell_far ⟨tb, 1, none⟩ la HNE.out).trans (((below_alloc wr _).cell (p := ⟨tb, 1, none⟩) hso).trans t1)
      have u2 := (hg2.cell_far ⟨tb, 2, none⟩ la HNE.out).trans (((below_alloc wr _).cell (p := ⟨tb, 2, none⟩) hso).trans t2)
      have uf1 := (hg2.frozen_far ⟨tb, 1, none⟩ la HNE.out).trans (((below_alloc wr _).frozen (p := ⟨tb, 1, none⟩) hso).trans tf1)
      have uf2 := (hg2.frozen_far ⟨tb, 2, none⟩ la HNE.out).trans (((below_alloc wr _).frozen (p := ⟨tb, 2, none⟩) hso).trans tf2)
      have hb2 := below_push HNX.out (Nat.le_of_lt hso) (own_mono HO.out (Nat.le_succ _)) hg2
      have OW := hid (ownsRow_setCell_other hown2 (a := ⟨tb, 1, none⟩) (fun e => Nat.not_succ_le_self _ (hown2.lt _ e).1) (.slice ao2 an2 cap2))
      have BW := hid (hb2.setCell (p := ⟨tb, 1, none⟩) (Nat.le_refl _) (.slice ao2 an2 cap2))
      have g0 : (w2.setCell ⟨tb, 1, none⟩ (.slice ao2 an2 cap2)).cell? ⟨tb, 0, none⟩ = _ := (World.cell?_setCell_other _ _ _ _ (by simp)).trans u0
      have g1 : (w2.setCell ⟨tb, 1, none⟩ (.slice ao2 an2 cap2)).cell? ⟨tb, 1, none⟩ = _ := World.cell?_setCell_same _ _ _ u1
      have g2 : (w2.setCell ⟨tb, 1, none⟩ (.slice ao2 an2 cap2)).cell? ⟨tb, 2, none⟩ = _ := (World.cell?_setCell_other _ _ _ _ (by simp)).trans u2
      have gf1 : (w2.setCell ⟨tb, 1, none⟩ (.slice ao2 an2 cap2)).frozen? ⟨tb, 1, none⟩ = false := by simp [uf1]
      have gf2 : (w2.setCell ⟨tb, 1, none⟩ (.slice ao2 an2 cap2)).frozen? ⟨tb, 2, none⟩ = false := by simp [uf2]
      have GG := hid (And.intro (And.intro g0 (And.intro g1 g2)) (And.intro gf1 gf2))
      clear g0 g1 g2 gf1 gf2 hg2 hown2 hb2 t0 t1 t2 tf1 tf2
      go_wp2_with fail
      generalize w2.setCell ⟨tb, 1, none⟩ (.slice ao2 an2 cap2) = w3 at *
      go_roundw
      case rel => exact ⟨k + 1, _, by have := HLT.out; omega, by go_num, GG.out.1, GG.out.2, by rw [HAT.out]; exact OW.out, BW.out⟩
      case measure => have := HLT.out; simp [intOf]; omega
    · obtain rfl : k = m := by omega
      have NLm := hid (show (nameN k).length ≤ 8 by omega)
      obtain ⟨ats, hats⟩ : ∃ ats, nameN k = ats := ⟨_, rfl⟩
      have HAT := hid hats
      rw [hats] at hown NLm
      clear hats hnl
      obtain ⟨wa, rfl⟩ : ∃ wa : World, wa = wr := ⟨_, rfl⟩
      obtain ⟨ao, an, acap, rfl⟩ : ∃ ao n cap, av = .slice ao n cap := by obtain ⟨a, c, h, -⟩ := (RdE.of_owns hown (by have := NLm.out; omega)).split; exact ⟨a, _, c, h⟩
      have AV := hid (RdE.of_owns hown (by have := NLm.out; omega))
      have AVF := hid (fun (j : Nat) (h : j < tb + 1) => far_own hown h)
      have RI := hid (RdE.toC (R1.out.below (show Below w1.heap.size w1 wa by rw [HTB.out]; exact hnx)))
      have TT := hid (And.intro (And.intro t0 (And.intro t1 t2)) (And.intro tf1 tf2))
      have hown1 : (wa.alloc (.cells #[.int .u32 (iv fu)] 55)).ownsRow wa.heap.size 55 1 (.slice (some ⟨wa.heap.size, 0, none⟩) 1 1) [fu].length ([fu].flatMap fun s : S => [enc s]) := World.ownsRow_lit (size := 1) (e := 55) wa #[.int .u32 (iv fu)] 1 (Nat.le_refl _) (by unfold maxLen; omega) rfl
      have HN := hid hnx
      have OL1 := hid hown1
      clear hown hown1 hnx hlt
      go_wp2_with fail
      refine (FU.out _).mono ?_
      rintro e w' ⟨rfl, rfl⟩
      go_wp2_with (at_builtin; refine wpList_appC rfl _ _ 59 rfl wa.heap.size 55 (.int .u32 0) 4 undSets infoSet rfl (by decide) (by decide) (n := 1) (c := fun s : S => [enc s]) (fun _ => rfl) (fun y u hu => by simp [enc] at hu; rw [hu]; rfl) _ [fu] rfl OL1.out _ il rfl (RdC.below RI.out (below_alloc _ _)) (by have := IL.out; simp; omega) (by simp) ?_)
      intro v4 w4 hown4' hg4
      have hb4 : Below wa.heap.size wa w4 := ((Below.refl wa.heap.size wa).alloc (Nat.le_refl _) (.cells #[.int .u32 (iv fu)] 55)).grown hg4 (by simp) (fun j hj => by simp [Value.ownBlock] at hj; omega)
      have hown4 : w4.ownsRow wa.heap.size 55 1 v4 (fu :: il).length ((fu :: il).map enc) := by rw [← flat_one]; simpa using hown4'
      have SLB := hid (show (fu :: il).length ≤ 65 by rw [List.length_cons]; have := IL.out; omega)
      have SL0 := hid (show fu :: il = fu :: irrL fu L by rw [HIL.out])
      clear hown4' hg4
      obtain ⟨sl, hsl⟩ : ∃ sl, fu :: il = sl := ⟨_, rfl⟩
      rw [hsl] at hown4 SLB SL0
      clear hsl
      have US := RdE.of_owns hown4 (by have := SLB.out; omega)
      obtain ⟨uo, un, ucap, rfl⟩ : ∃ ao n cap, v4 = .slice ao n cap := by obtain ⟨a, c, h, -⟩ := US.split; exact ⟨a, _, c, h⟩
      have UN := hid (show un = sl.length by obtain ⟨a, c, h, -⟩ := US.split; cases h; rfl)
      have KP0 := hid (show Kp (.slice ao an acap) (.slice uo un ucap) ats sl tb (Value.slice none 0 0).ownBlock w4 from ⟨AV.out.below hb4, US, AVF.out tb (by omega), far_own hown4 hso, (fun _ _ _ _ _ e => by cases e), (fun _ _ _ _ _ e => by cases e)⟩)
      have r0 := (hb4.cell (p := ⟨tb, 0, none⟩) hso).trans TT.out.1.1
      have r1 := (hb4.cell (p := ⟨tb, 1, none⟩) hso).trans TT.out.1.2.1
      have r2 := (hb4.cell (p := ⟨tb, 2, none⟩) hso).trans TT.out.1.2.2
      have rf := (hb4.frozen (p := ⟨tb, 2, none⟩) hso).trans TT.out.2.2
      have ST4 := hid (And.intro r0 (And.intro r1 (And.intro r2 rf)))
      have B4 := hid (HN.out.trans (hb4.mono (Nat.le_of_lt hso)))
      have u1 : (un : Int) ≤ 65 := by have := UN.out; have := SLB.out; omega
      clear hb4 hown4 US r0 r1 r2 rf t0 t1 t2 tf1 tf2 OL1 RI
      go_wp2_with fail
      go_loopw [46] (fun idx wr => ∃ (i : Nat) (rs : List Row3) (tv : Value), i ≤ sl.length ∧ idx = .int .i64 i ∧ (wr.cell? ⟨tb, 0, none⟩ = some (.string (ByteArray.mk #[116])) ∧ wr.cell? ⟨tb, 1, none⟩ = some (.slice ao an acap) ∧ wr.cell? ⟨tb, 2, none⟩ = some tv) ∧ wr.frozen? ⟨tb, 2, none⟩ = false ∧ wr.ownsRow (tb + 1) 87 2 tv rs.length (rs.flatMap cR) ∧ Hid (∀ r ∈ rs, RdV wr r.2.1 r.2.2 ∧ FarV r.2.1 tv.ownBlock ∧ (∀ j, j ≤ tb → FarV r.2.1 (some j))) ∧ Hid (rs.map (fun r => (r.1, r.2.2)) = (armR k sl).take i) ∧ Hid (Kp (.slice ao an acap) (.slice uo un ucap) ats sl tb tv.ownBlock wr) ∧ Below tb w1 wr) (fun idx _ => un - (intOf idx).toNat)
      case atStart => exact ⟨0, [], _, Nat.zero_le _, rfl, ⟨ST4.out.1, ST4.out.2.1, ST4.out.2.2.1⟩, ST4.out.2.2.2, World.ownsRow_nil _ _ _ _, hid (fun _ h => absurd h (by simp)), hid rfl, KP0, B4.out⟩
      case round =>
        obtain ⟨i, rs, tv, hi, rfl, ⟨t0, t1, t2⟩, tf, hown, HRS, HMP, KP, hnx⟩ := hrel
        have i0 : (0 : Int) ≤ (i : Int) := by omega
        have i65 : (i : Int) ≤ 65 := by have := SLB.out; omega
        by_cases hlt : i < sl.length
        · obtain ⟨s, hs⟩ := get_some hlt
          have hiu : i < un := by rw [UN.out]; exact hlt
          obtain ⟨uo', ucap', heq, -, hcs⟩ := KP.out.2.1.split
          simp only [Value.slice.injEq] at heq
          obtain ⟨rfl, -, rfl⟩ := heq
          obtain ⟨ub, uoff, hue, hdu⟩ := hcs i s hs
          have e0 := hdu wr (Below.refl _ _)
          unfold enc at e0
          have AT := hid (show (armR k sl)[i]? = some ((i : Int) + 1, armV k s i) by unfold armR; rw [List.getElem?_mapIdx, hs]; rfl)
          have HLT := hid hlt
          subst hue
          obtain ⟨wo, rfl⟩ : ∃ wo : World, wo = wr := ⟨_, rfl⟩
          have HO := hid hown
          have TT2 := hid (And.intro t0 (And.intro t1 (And.intro t2 tf)))
          have hso2 : tb < wo.heap.size := World.block_lt_of_cell? _ _ t0
          have hba := below_alloc wo (.cells #[.int .i64 ((i : Int) + 1), .slice none 0 0] 87)
          have hrc := cells2 (w := wo) (a := .int .i64 ((i : Int) + 1)) (b := .slice none 0 0) (t := 87) _ (Below.refl _ _)
          have hrf : (wo.alloc (.cells #[.int .i64 ((i : Int) + 1), .slice none 0 0] 87)).frozen? ⟨wo.heap.size, 1, none⟩ = false := by simp
          have RS := hid (And.intro hrc (And.intro hrf hba))
          have HNX := hid hnx
          clear hs hown hrc hrf hba hcs hdu hlt hnx
          go_wp2_with fail
          clear e0
          go_loopw [55] (fun idx wr => ∃ (j : Nat) (vv : Value), j ≤ k ∧ idx = .int .i64 j ∧ (wr.cell? ⟨wo.heap.size, 0, none⟩ = some (.int .i64 ((i : Int) + 1)) ∧ wr.cell? ⟨wo.heap.size, 1, none⟩ = some vv) ∧ wr.frozen? ⟨wo.heap.size, 1, none⟩ = false ∧ wr.ownsRow (wo.heap.size + 1) 89 3 vv (armV j s i).length ((armV j s i).flatMap cV) ∧ Below wo.heap.size wo wr) (fun idx _ => k - (intOf idx).toNat)
          case atStart => exact ⟨0, _, Nat.zero_le _, rfl, RS.out.1, RS.out.2.1, World.ownsRow_nil _ _ _ _, RS.out.2.2⟩
          case round =>
            obtain ⟨j, vv, hj, rfl, ⟨c0, c1⟩, cf, hown2, hnx2⟩ := hrel
            have hsz2 := hnx2.size
            have j0 : (0 : Int) ≤ (j : Int) := by omega
            have j6 : (j : Int) ≤ 6 := by omega
            by_cases hlt2 : j < k
            · have hrb : wo.heap.size < wr.heap.size := World.block_lt_of_cell? _ _ c1
              have hbv := below_alloc wr (.cells #[.int .i64 1, .int .i64 0, .string (ByteArray.mk #[])] 89)
              obtain ⟨n0, n1, n2⟩ := cells3 (w := wr) (a := .int .i64 1) (b := .int .i64 0) (c := .string (ByteArray.mk #[])) (t := 89) _ (Below.refl _ _)
              have nf : (wr.alloc (.cells #[.int .i64 1, .int .i64 0, .string (ByteArray.mk #[])] 89)).frozen? ⟨wr.heap.size, 1, none⟩ = false := by simp
              have BZ := bit_zeroN s j
              cases hbit : s.getLsbD j with
              | true =>
                rw [hbit, Bool.not_true] at BZ
                have hbw := hbv
                have hownV := hown2.alloc (.cells #[.int .i64 1, .int .i64 0, .string (ByteArray.mk #[])] 89)
                have v0 := n0
                have v1 := n1
                have v2 := n2
                have hsv : (wr.alloc (.cells #[.int .i64 1, .int .i64 0, .string (ByteArray.mk #[])] 89)).heap.size = wr.heap.size + 1 := by simp
                have AN := hid (show armV (j + 1) s i = armV j s i ++ [((1, 0, ByteArray.mk #[]) : V3)] by rw [armV_next, hbit]; rfl)
                have d0 := (hbw.cell (p := ⟨wo.heap.size, 0, none⟩) hrb).trans c0
                have d1 := (hbw.cell (p := ⟨wo.heap.size, 1, none⟩) hrb).trans c1
                have df := (hbw.frozen (p := ⟨wo.heap.size, 1, none⟩) hrb).trans cf
                have CN := cells_newV (wr.alloc (.cells #[.int .i64 1, .int .i64 0, .string (ByteArray.mk #[])] 89)) ((1, 0, ByteArray.mk #[]) : V3) (t := 89)
                rw [hsv] at CN
                have CNH := hid CN
                have OVH := hid hownV
                have BWH := hid hbw
                have HLV := hid (show (armV j s i).length ≤ 6 by rw [armV_length]; omega)
                have HSV := hid hsv
                have HO2 := hid hown2
                have HX2 := hid hnx2
                clear CN hownV hbw hbv hsv hown2 hnx2
                go_wp2_with (at_builtin; refine wpList_pushC rfl _ _ 85 rfl (wo.heap.size + 1) 89 (.agg #[.int .i64 0, .int .i64 0, .string (ByteArray.mk #[])]) 3 32 undVs infoV rfl (by decide) (by decide) cV cV_length cV_one _ (armV j s i) rfl (OVH.out.alloc _) ⟨wr.heap.size + 1, 0, none⟩ ((1, 0, ByteArray.mk #[]) : V3) rfl CNH.out (by have := HLV.out; omega) (by have := HSV.out; simp at this ⊢; omega) ?_)
                intro v6 w6 hown6' hgrow
                have hown6 : w6.ownsRow (wo.heap.size + 1) 89 3 v6 (armV j s i ++ [((1, 0, ByteArray.mk #[]) : V3)]).length ((armV j s i ++ [((1, 0, ByteArray.mk #[]) : V3)]).flatMap cV) := by simpa using hown6'
                clear hown6'
                obtain ⟨ao6, cap6, rfl, -⟩ := RdC.of_owns cV_length hown6 (show (armV j s i ++ [((1, 0, ByteArray.mk #[]) : V3)]).length ≤ 35184372088832 by rw [List.length_append, List.length_singleton]; have := HLV.out; omega)
                have hne : some wo.heap.size ≠ vv.ownBlock := fun e => Nat.not_succ_le_self _ (HO2.out.lt _ e.symm).1
                have la : wo.heap.size < ((wr.alloc (.cells #[.int .i64 1, .int .i64 0, .string (ByteArray.mk #[])] 89)).alloc (.cells #[.int .i64 1, .int .i64 0, .string (ByteArray.mk #[])] 89)).heap.size := by have := HSV.out; simp at this ⊢; omega
                have lb : wo.heap.size < (wr.alloc (.cells #[.int .i64 1, .int .i64 0, .string (ByteArray.mk #[])] 89)).heap.size := by rw [HSV.out]; omega
                have f0 := (hgrow.cell_far ⟨wo.heap.size, 0, none⟩ la hne).trans (((below_alloc (wr.alloc (.cells #[.int .i64 1, .int .i64 0, .string (ByteArray.mk #[])] 89)) _).cell (p := ⟨wo.heap.size, 0, none⟩) lb).trans d0)
                have f1 := (hgrow.cell_far ⟨wo.heap.size, 1, none⟩ la hne).trans (((below_alloc (wr.alloc (.cells #[.int .i64 1, .int .i64 0, .string (ByteArray.mk #[])] 89)) _).cell (p := ⟨wo.heap.size, 1, none⟩) lb).trans d1)
                have f2 := (hgrow.frozen_far ⟨wo.heap.size, 1, none⟩ la hne).trans (((below_alloc (wr.alloc (.cells #[.int .i64 1, .int .i64 0, .string (ByteArray.mk #[])] 89)) _).frozen (p := ⟨wo.heap.size, 1, none⟩) lb).trans df)
                have hb6 := below_push (HX2.out.trans (BWH.out.mono (Nat.le_of_lt hrb))) (Nat.le_of_lt lb) (own_mono OVH.out (Nat.le_succ _)) hgrow
                have OW6 := hid (ownsRow_setCell_other hown6 (a := ⟨wo.heap.size, 1, none⟩) (fun e => Nat.not_succ_le_self _ (hown6.lt _ e).1) (.slice ao6 (armV j s i ++ [((1, 0, ByteArray.mk #[]) : V3)]).length cap6))
                have B6 := hid (hb6.setCell (p := ⟨wo.heap.size, 1, none⟩) (Nat.le_refl _) (.slice ao6 (armV j s i ++ [((1, 0, ByteArray.mk #[]) : V3)]).length cap6))
                have g0 : (w6.setCell ⟨wo.heap.size, 1, none⟩ (.slice ao6 (armV j s i ++ [((1, 0, ByteArray.mk #[]) : V3)]).length cap6)).cell? ⟨wo.heap.size, 0, none⟩ = some (.int .i64 ((i : Int) + 1)) := (World.cell?_setCell_other _ _ _ _ (by simp)).trans f0
                have g1 : (w6.setCell ⟨wo.heap.size, 1, none⟩ (.slice ao6 (armV j s i ++ [((1, 0, ByteArray.mk #[]) : V3)]).length cap6)).cell? ⟨wo.heap.size, 1, none⟩ = some (.slice ao6 (armV j s i ++ [((1, 0, ByteArray.mk #[]) : V3)]).length cap6) := World.cell?_setCell_same _ _ _ f1
                have g2 : (w6.setCell ⟨wo.heap.size, 1, none⟩ (.slice ao6 (armV j s i ++ [((1, 0, ByteArray.mk #[]) : V3)]).length cap6)).frozen? ⟨wo.heap.size, 1, none⟩ = false := by simp [f2]
                have GG := hid (And.intro g0 (And.intro g1 g2))
                clear g0 g1 g2 d0 d1 df hgrow hb6 hown6 la lb hne v0 v1 v2 n0 n1 n2 nf
                go_wp2_with fail
                try rw [show (armV j s i).length + 1 = (armV j s i ++ [((1, 0, ByteArray.mk #[]) : V3)]).length by simp]
                generalize (w6.setCell ⟨wo.heap.size, 1, none⟩ (.slice ao6 (armV j s i ++ [((1, 0, ByteArray.mk #[]) : V3)]).length cap6)) = w7 at *
                go_wp2_with fail
                go_roundw
                case rel => exact ⟨j + 1, _, by omega, by go_num, ⟨GG.out.1, GG.out.2.1⟩, GG.out.2.2, by rw [AN.out]; exact OW6.out, B6.out⟩
                case measure => simp [intOf]; omega
              | false =>
                rw [hbit, Bool.not_false] at BZ
                have hbw := below_alloc wr (.cells #[.int .i64 1, .int .i64 (i : Int), .string (ByteArray.mk #[])] 89)
                have hownV := hown2.alloc (.cells #[.int .i64 1, .int .i64 (i : Int), .string (ByteArray.mk #[])] 89)
                obtain ⟨v0, v1, v2⟩ := cells3 (w := wr) (a := .int .i64 1) (b := .int .i64 (i : Int)) (c := .string (ByteArray.mk #[])) (t := 89) _ (Below.refl _ _)
                have hsv : (wr.alloc (.cells #[.int .i64 1, .int .i64 (i : Int), .string (ByteArray.mk #[])] 89)).heap.size = wr.heap.size + 1 := by simp
                have AN := hid (show armV (j + 1) s i = armV j s i ++ [((1, (i : Int), ByteArray.mk #[]) : V3)] by rw [armV_next, hbit]; rfl)
                have d0 := (hbw.cell (p := ⟨wo.heap.size, 0, none⟩) hrb).trans c0
                have d1 := (hbw.cell (p := ⟨wo.heap.size, 1, none⟩) hrb).trans c1
                have df := (hbw.frozen (p := ⟨wo.heap.size, 1, none⟩) hrb).trans cf
                have CN := cells_newV (wr.alloc (.cells #[.int .i64 1, .int .i64 (i : Int), .string (ByteArray.mk #[])] 89)) ((1, (i : Int), ByteArray.mk #[]) : V3) (t := 89)
                rw [hsv] at CN
                have CNH := hid CN
                have OVH := hid hownV
                have BWH := hid hbw
                have HLV := hid (show (armV j s i).length ≤ 6 by rw [armV_length]; omega)
                have HSV := hid hsv
                have HO2 := hid hown2
                have HX2 := hid hnx2
                clear CN hownV hbw hbv hsv hown2 hnx2
                go_wp2_with (at_builtin; refine wpList_pushC rfl _ _ 85 rfl (wo.heap.size + 1) 89 (.agg #[.int .i64 0, .int .i64 0, .string (ByteArray.mk #[])]) 3 32 undVs infoV rfl (by decide) (by decide) cV cV_length cV_one _ (armV j s i) rfl (OVH.out.alloc _) ⟨wr.heap.size + 1, 0, none⟩ ((1, (i : Int), ByteArray.mk #[]) : V3) rfl CNH.out (by have := HLV.out; omega) (by have := HSV.out; simp at this ⊢; omega) ?_)
                intro v6 w6 hown6' hgrow
                have hown6 : w6.ownsRow (wo.heap.size + 1) 89 3 v6 (armV j s i ++ [((1, (i : Int), ByteArray.mk #[]) : V3)]).length ((armV j s i ++ [((1, (i : Int), ByteArray.mk #[]) : V3)]).flatMap cV) := by simpa using hown6'
                clear hown6'
                obtain ⟨ao6, cap6, rfl, -⟩ := RdC.of_owns cV_length hown6 (show (armV j s i ++ [((1, (i : Int), ByteArray.mk #[]) : V3)]).length ≤ 35184372088832 by rw [List.length_append, List.length_singleton]; have := HLV.out; omega)
                have hne : some wo.heap.size ≠ vv.ownBlock := fun e => Nat.not_succ_le_self _ (HO2.out.lt _ e.symm).1
                have la : wo.heap.size < ((wr.alloc (.cells #[.int .i64 1, .int .i64 (i : Int), .string (ByteArray.mk #[])] 89)).alloc (.cells #[.int .i64 1, .int .i64 (i : Int), .string (ByteArray.mk #[])] 89)).heap.size := by have := HSV.out; simp at this ⊢; omega
                have lb : wo.heap.size < (wr.alloc (.cells #[.int .i64 1, .int .i64 (i : Int), .string (ByteArray.mk #[])] 89)).heap.size := by rw [HSV.out]; omega
                have f0 := (hgrow.cell_far ⟨wo.heap.size, 0, none⟩ la hne).trans (((below_alloc (wr.alloc (.cells #[.int .i64 1, .int .i64 (i : Int), .string (ByteArray.mk #[])] 89)) _).cell (p := ⟨wo.heap.size, 0, none⟩) lb).trans d0)
                have f1 := (hgrow.cell_far ⟨wo.heap.size, 1, none⟩ la hne).trans (((below_alloc (wr.alloc (.cells #[.int .i64 1, .int .i64 (i : Int), .string (ByteArray.mk #[])] 89)) _).cell (p := ⟨wo.heap.size, 1, none⟩) lb).trans d1)
                have f2 := (hgrow.frozen_far ⟨wo.heap.size, 1, none⟩ la hne).trans (((below_alloc (wr.alloc (.cells #[.int .i64 1, .int .i64 (i : Int), .string (ByteArray.mk #[])] 89)) _).frozen (p := ⟨wo.heap.size, 1, none⟩) lb).trans df)
                have hb6 := below_push (HX2.out.trans (BWH.out.mono (Nat.le_of_lt hrb))) (Nat.le_of_lt lb) (own_mono OVH.out (Nat.le_succ _)) hgrow
                have OW6 := hid (ownsRow_setCell_other hown6 (a := ⟨wo.heap.size, 1, none⟩) (fun e => Nat.not_succ_le_self _ (hown6.lt _ e).1) (.slice ao6 (armV j s i ++ [((1, (i : Int), ByteArray.mk #[]) : V3)]).length cap6))
                have B6 := hid (hb6.setCell (p := ⟨wo.heap.size, 1, none⟩) (Nat.le_refl _) (.slice ao6 (armV j s i ++ [((1, (i : Int), ByteArray.mk #[]) : V3)]).length cap6))
                have g0 : (w6.setCell ⟨wo.heap.size, 1, none⟩ (.slice ao6 (armV j s i ++ [((1, (i : Int), ByteArray.mk #[]) : V3)]).length cap6)).cell? ⟨wo.heap.size, 0, none⟩ = some (.int .i64 ((i : Int) + 1)) := (World.cell?_setCell_other _ _ _ _ (by simp)).trans f0
                have g1 : (w6.setCell ⟨wo.heap.size, 1, none⟩ (.slice ao6 (armV j s i ++ [((1, (i : Int), ByteArray.mk #[]) : V3)]).length cap6)).cell? ⟨wo.heap.size, 1, none⟩ = some (.slice ao6 (armV j s i ++ [((1, (i : Int), ByteArray.mk #[]) : V3)]).length cap6) := World.cell?_setCell_same _ _ _ f1
                have g2 : (w6.setCell ⟨wo.heap.size, 1, none⟩ (.slice ao6 (armV j s i ++ [((1, (i : Int), ByteArray.mk #[]) : V3)]).length cap6)).frozen? ⟨wo.heap.size, 1, none⟩ = false := by simp [f2]
                have GG := hid (And.intro g0 (And.intro g1 g2))
                clear g0 g1 g2 d0 d1 df hgrow hb6 hown6 la lb hne v0 v1 v2 n0 n1 n2 nf
                go_wp2_with fail
                try rw [show (armV j s i).length + 1 = (armV j s i ++ [((1, (i : Int), ByteArray.mk #[]) : V3)]).length by simp]
                generalize (w6.setCell ⟨wo.heap.size, 1, none⟩ (.slice ao6 (armV j s i ++ [((1, (i : Int), ByteArray.mk #[]) : V3)]).length cap6)) = w7 at *
                go_wp2_with fail
                go_roundw
                case rel => exact ⟨j + 1, _, by omega, by go_num, ⟨GG.out.1, GG.out.2.1⟩, GG.out.2.2, by rw [AN.out]; exact OW6.out, B6.out⟩
                case measure => simp [intOf]; omega
            · obtain rfl : j = k := by omega
              have AVL := hid (armV_length j s i)
              have RVv := hid (RdC.of_owns cV_length hown2 (by rw [armV_length]; omega))
              obtain ⟨ov, vcap, rfl, -⟩ := RdC.of_owns cV_length hown2 (by rw [armV_length]; omega)
              have t0 := (hnx2.cell (p := ⟨tb, 0, none⟩) hso2).trans TT2.out.1
              have t1 := (hnx2.cell (p := ⟨tb, 1, none⟩) hso2).trans TT2.out.2.1
              have t2 := (hnx2.cell (p := ⟨tb, 2, none⟩) hso2).trans TT2.out.2.2.1
              have tf := (hnx2.frozen (p := ⟨tb, 2, none⟩) hso2).trans TT2.out.2.2.2
              have O2 := hid (own_below HO.out hnx2)
              have HNT := hid (show some tb ≠ tv.ownBlock from fun e => Nat.not_succ_le_self _ (HO.out.lt _ e.symm).1)
              have HRL := hid (show rs.length ≤ 65 by have := congrArg List.length HMP.out; simp [armR] at this; omega)
              have HV2 := hid hown2
              have HSO := hid (Nat.lt_of_lt_of_le hso2 hsz2)
              have HX2 := hid hnx2
              have KP2 := hid (KP.out.below hnx2)
              have HRS2 := hid (fun (r' : Row3) (h : r' ∈ rs) => HRS.out r' h)
              clear hown2 hnx2
              go_wp2_with (at_builtin; (refine wpList_pushB rfl _ _ 46 rfl (tb + 1) 87 (.agg #[.int .i64 0, .slice none 0 0]) 2 32 undRows infoRow rfl (by decide) (by decide) cR cR_length _ rs rfl (O2.out.alloc (.cells #[.int .i64 ((i : Int) + 1), .slice ov (armV j s i).length vcap] 87)) ⟨wr.heap.size, 0, none⟩ (((i : Int) + 1, Value.slice ov (armV j s i).length vcap, armV j s i) : Row3) (by intro u hu; simp [cR] at hu; rcases hu with rfl | rfl <;> rfl) rfl (cells_newR wr (((i : Int) + 1, Value.slice ov (armV j s i).length vcap, armV j s i) : Row3)) (by have := HRL.out; omega) (by have := HSO.out; simp; omega) ?_))
              intro v8 w8 hown8' hg8 hv8
              obtain ⟨y, hy⟩ : ∃ y, (((i : Int) + 1, Value.slice ov (armV j s i).length vcap, armV j s i) : Row3) = y := ⟨_, rfl⟩
              have hown8 : w8.ownsRow (tb + 1) 87 2 v8 (rs ++ [y]).length ((rs ++ [y]).flatMap cR) := by rw [← hy]; simpa using hown8'
              clear hown8'
              obtain ⟨o8, n8, cap8, rfl⟩ : ∃ ao n cap, v8 = .slice ao n cap := by obtain ⟨a, c, h, -⟩ := RdC.of_owns cR_length hown8 (show (rs ++ [y]).length ≤ 35184372088832 by have := HRL.out; rw [List.length_append, List.length_singleton]; omega); exact ⟨a, _, c, h⟩
              have la : tb < (wr.alloc (.cells #[.int .i64 ((i : Int) + 1), .slice ov (armV j s i).length vcap] 87)).heap.size := by have := HSO.out; simp; omega
              have u0 := (hg8.cell_far ⟨tb, 0, none⟩ la HNT.out).trans (((below_alloc wr _).cell (p := ⟨tb, 0, none⟩) HSO.out).trans t0)
              have u1' := (hg8.cell_far ⟨tb, 1, none⟩ la HNT.out).trans (((below_alloc wr _).cell (p := ⟨tb, 1, none⟩) HSO.out).trans t1)
              have u2 := (hg8.cell_far ⟨tb, 2, none⟩ la HNT.out).trans (((below_alloc wr _).cell (p := ⟨tb, 2, none⟩) HSO.out).trans t2)
              have uf := (hg8.frozen_far ⟨tb, 2, none⟩ la HNT.out).trans (((below_alloc wr _).frozen (p := ⟨tb, 2, none⟩) HSO.out).trans tf)
              have OW9 := hid (ownsRow_setCell_other hown8 (a := ⟨tb, 2, none⟩) (fun e => Nat.not_succ_le_self _ (hown8.lt _ e).1) (.slice o8 n8 cap8))
              have hb8 := below_push (HNX.out.trans (HX2.out.mono (Nat.le_of_lt hso2))) (Nat.le_of_lt HSO.out) (own_mono O2.out (Nat.le_succ _)) hg8
              have B9 := hid (hb8.setCell (p := ⟨tb, 2, none⟩) (Nat.le_refl _) (.slice o8 n8 cap8))
              have HM9 := hid (show (rs ++ [y]).map (fun r => (r.1, r.2.2)) = (armR j sl).take (i + 1) by rw [← hy, List.map_append, HMP.out, List.take_add_one, AT.out]; rfl)
              have KP9 := hid (((KP2.out.below (below_alloc wr _)).grown hg8 (by
                rcases hv8 with e | e
                · exact .inl e
                · exact .inr (by rw [e]; first | rfl | simp)) |>.set (i := 2) (x := .slice o8 n8 cap8)))
              have pv : ∀ (a : Addr) (len cap : Nat), (Value.slice ov (armV j s i).length vcap) = .slice (some a) len cap → (Value.slice ov (armV j s i).length vcap).ownBlock = some a.block := by intro a len cap e; cases e; rfl
              have HR9 := hid (show ∀ r' ∈ rs ++ [y], RdV (w8.setCell ⟨tb, 2, none⟩ (.slice o8 n8 cap8)) r'.2.1 r'.2.2 ∧ FarV r'.2.1 (Value.slice o8 n8 cap8).ownBlock ∧ (∀ q, q ≤ tb → FarV r'.2.1 (some q)) by
                intro r' hr'
                rcases List.mem_append.1 hr' with h | h
                · obtain ⟨p1, p2, p3⟩ := HRS2.out r' h
                  have p4 := RdC.grown ((RdC.below p1 HX2.out).below (below_alloc wr _)) hg8 p2
                  refine ⟨RdC.setFar p4 (p3 tb (Nat.le_refl _)), ?_, p3⟩
                  rcases hv8 with e | e
                  · rw [e]; exact p2
                  · rw [e]; exact RdC.blk (RdC.below p1 HX2.out) (by simp)
                · obtain rfl := List.mem_singleton.1 h
                  rw [← hy]
                  have pt : FarV (Value.slice ov (armV j s i).length vcap) tv.ownBlock := fun a len cap e1 _ e2 => by have h1 := (HV2.out.lt _ (pv _ _ _ e1)).1; have h2 := (HO.out.lt _ e2).2; omega
                  have pb : ∀ q, q ≤ tb → FarV (Value.slice ov (armV j s i).length vcap) (some q) := fun q hq a len cap e1 _ e2 => by have h1 := (HV2.out.lt _ (pv _ _ _ e1)).1; simp at e2; omega
                  have p4 := RdC.grown (RdC.below RVv.out (below_alloc wr _)) hg8 pt
                  refine ⟨RdC.setFar p4 (pb tb (Nat.le_refl _)), ?_, pb⟩
                  rcases hv8 with e | e
                  · rw [e]; exact pt
                  · rw [e]; intro a len cap e1 _ e2
                    have h1 := (HV2.out.lt _ (pv _ _ _ e1)).2
                    simp at e2; omega)
              have g0 : (w8.setCell ⟨tb, 2, none⟩ (.slice o8 n8 cap8)).cell? ⟨tb, 0, none⟩ = _ := (World.cell?_setCell_other _ _ _ _ (by simp)).trans u0
              have g1 : (w8.setCell ⟨tb, 2, none⟩ (.slice o8 n8 cap8)).cell? ⟨tb, 1, none⟩ = _ := (World.cell?_setCell_other _ _ _ _ (by simp)).trans u1'
              have g2 : (w8.setCell ⟨tb, 2, none⟩ (.slice o8 n8 cap8)).cell? ⟨tb, 2, none⟩ = some (.slice o8 n8 cap8) := World.cell?_setCell_same _ _ _ u2
              have gf : (w8.setCell ⟨tb, 2, none⟩ (.slice o8 n8 cap8)).frozen? ⟨tb, 2, none⟩ = false := by simp [uf]
              have GG := hid (And.intro g0 (And.intro g1 (And.intro g2 gf)))
              clear g0 g1 g2 gf hown8 hg8 hv8 hb8 pv hy t0 t1 t2 tf
              go_wp2_with fail
              generalize w8.setCell ⟨tb, 2, none⟩ (.slice o8 n8 cap8) = w9 at *
              go_wp2_with fail
              go_roundw
              case rel => exact ⟨i + 1, rs ++ [y], _, by have := HLT.out; omega, by go_num, ⟨GG.out.1, GG.out.2.1, GG.out.2.2.1⟩, GG.out.2.2.2, OW9.out, HR9, HM9, KP9, B9.out⟩
              case measure => simp [intOf]; omega
        · obtain rfl : i = sl.length := by omega
          have hun : ¬ ((sl.length : Int) < (un : Int)) := by have := UN.out; omega
          have HRL := hid (show rs.length ≤ 65 by have := congrArg List.length HMP.out; simp [armR] at this; have := SLB.out; omega)
          have RT := hid (show RdC cR wr tv rs from RdC.of_owns cR_length hown (by have := HRL.out; omega))
          have HMf := hid (show rs.map (fun r => (r.1, r.2.2)) = armR k sl by rw [HMP.out]; exact List.take_of_length_le (by simp [armR]))
          obtain ⟨ot, tn, tcap, rfl⟩ : ∃ ao n cap, tv = .slice ao n cap := by obtain ⟨a, c, h, -⟩ := RdC.of_owns cR_length hown (by have := HRL.out; omega); exact ⟨a, _, c, h⟩
          have htb1 : w.heap.size + 1 ≤ tb := by have h1 := HTB.out; have h2 := HS0.out; omega
          have BR := hid (show Below w.heap.size w wr from (B0.out.trans (B1.out.mono hsz0)).trans ((show Below w1.heap.size w1 wr by rw [HTB.out]; exact hnx).mono (by have h1 := HTB.out; omega)))
          obtain ⟨⟨z0, z1, z2⟩, zf⟩ := Z3.out _ (B1.out.trans ((show Below w1.heap.size w1 wr by rw [HTB.out]; exact hnx).mono (by have h1 := HTB.out; have h2 := HS0.out; omega)))
          have zf0 := zf 0
          have zf1 := zf 1
          have zf2 := zf 2
          have hfar := hid (show ∀ r ∈ rs, RdV wr r.2.1 r.2.2 from fun r hr => (HRS.out r hr).1)
          have FT := hid (fun (j : Nat) (h : j < tb + 1) => far_own hown h)
          clear zf hown hnx hlt
          go_wp2_with fail
          obtain ⟨wf, hwf⟩ : ∃ wf : World, ((wr.setCell ⟨w.heap.size, 0, none⟩ (.string (ByteArray.mk #[116]))).setCell ⟨w.heap.size, 1, none⟩ (.slice ao an acap)).setCell ⟨w.heap.size, 2, none⟩ (.slice ot tn tcap) = wf := ⟨_, rfl⟩
          obtain ⟨r0, r1, r2⟩ := set3w z0 z1 z2 hwf
          have QA : RdE encT wf (.slice ao an acap) ats := by rw [← hwf]; exact RdE.set3 KP.out.1 (AVF.out _ (by omega))
          have QR : RdC cR wf (.slice ot tn tcap) rs := by rw [← hwf]; exact RdC.set3 RT.out (FT.out _ (by omega))
          have QV : ∀ r ∈ rs, RdV wf r.2.1 r.2.2 := fun r hr => by rw [← hwf]; exact RdC.set3 (hfar.out r hr) ((HRS.out r hr).2.2 _ (by omega))
          have QB : Below w.heap.size w wf := by rw [← hwf]; exact ((BR.out.setCell (p := ⟨w.heap.size, 0, none⟩) (Nat.le_refl _) _).setCell (p := ⟨w.heap.size, 1, none⟩) (Nat.le_refl _) _).setCell (p := ⟨w.heap.size, 2, none⟩) (Nat.le_refl _) _
          rw [hwf]
          have QT : RdT wf (.slice ao an acap) (.slice ot tn tcap) (armT k rs) := ⟨by show RdE encT wf _ (nameN k); rw [HAT.out]; exact QA, QR, QV⟩
          exact bodyPost_ret (v := .tuple #[.agg #[.string (ByteArray.mk #[116]), .slice ao an acap, .slice ot tn tcap], .int .i64 0]) (by simp [results, Tryz.results12, go_sem, r0, r1, r2]) rfl (show BuildPost k fs w _ wf from ⟨_, _, L, rs, rfl, QT, by rw [HMf.out, SL0.out, HFU.out], by rw [HFU.out]; exact OL.out, L64.out, QB⟩)

end Go.Proofs.YtgahpgmagfngfaaGreatDoor


/- The walks of third.full and third.Synthesize. -/
namespace Go.Proofs.YtgahpgmagfngfaaGreatDoor
open Go.RowKit
set_option linter.unusedVariables false

theorem tfull_any (m : Nat) (hm : m ≤ 16) (w : World) :
    Calls Tryz.prog 27 #[.int .i64 (m : Int)] w fun e w' => e = .returned (.int .u32 (iv (fullN m))) ∧ w = w' := by
  have E := hid (shl_fullK hm)
  have m0 : (0 : Int) ≤ (m : Int) := by omega
  rw [← E.out]
  go_enter Tryz.func27, Tryz.ntmps27
  go_wp2_with fail
  go_ret
  exact ⟨rfl, rfl⟩

set_option maxHeartbeats 1600000 in
set_option maxRecDepth 100000 in
theorem synth_any (m : Nat) (fs : List F) (v : Value) (w : World) (hT : Tab w) (hv : RdF w v fs) (hq : validF (m : Int) fs = 0) :
    Calls Tryz.prog 11 #[.int .i64 (m : Int), v] w fun e w' => ∃ v', e = .returned (.tuple #[v', .int .i64 0]) ∧ RdE enc w' v' (synR (m : Int) fs) ∧ Below w.heap.size w w' := by
  obtain ⟨h0, h16, -, -⟩ := validF_w2 hq
  have CA := hid (canonical_any (m : Int) fs v w hT hv)
  rw [hq] at CA
  have SK := hid (fun (s : S) (W : World) (h : Below w.heap.size w W) => superkey_any (m : Int) fs s v W (hv.below h))
  have KR := hid (fun (W : World) (h : Below w.heap.size w W) => kreduce_any (m : Int) fs (fullN m) v W (hv.below h))
  have e1 : rdE (m : Int) fs (fullN m) = 0 := by
    unfold rdE
    rw [if_neg (by simpa using hq), if_pos (show supB (m : Int) fs (fullN m) = true from supB_full hq)]
  rw [e1] at KR
  have FU := hid (fun (W : World) => tfull_any m (by omega) W)
  have AM := hid (fun (xs : List S) (x : Value) (W : World) (hx : RdE enc W x xs) (hl : xs.length < 17592186044416) => amaximal_any xs x W hx hl)
  have ML := hid (show (mergeF (resM (m : Int) fs)).length ≤ 2048 from Nat.le_trans (mergeF_length _) (resM_length _ _))
  have RS := hid (show synR (m : Int) fs = keepS upR ((mergeF (resM (m : Int) fs)).map (fun f => f.1 ||| f.2) ++ if ((mergeF (resM (m : Int) fs)).map (fun f => f.1 ||| f.2)).any (supB (m : Int) fs) = true then [] else [rdS (m : Int) fs (fullN m)]) from rfl)
  obtain ⟨RES, hRES⟩ : ∃ RES, synR (m : Int) fs = RES := ⟨_, rfl⟩
  rw [hRES] at RS ⊢
  obtain ⟨key, hkey⟩ : ∃ key, rdS (m : Int) fs (fullN m) = key := ⟨_, rfl⟩
  rw [hkey] at RS KR
  obtain ⟨sup, hsup⟩ : ∃ sup, supB (m : Int) fs = sup := ⟨_, rfl⟩
  rw [hsup] at RS SK
  obtain ⟨l, hl⟩ : ∃ l, mergeF (resM (m : Int) fs) = l := ⟨_, rfl⟩
  rw [hl] at RS CA ML
  obtain ⟨fu, hfu⟩ : ∃ fu, fullN m = fu := ⟨_, rfl⟩
  rw [hfu] at FU KR
  obtain ⟨ao, cap, rfl⟩ := hv.form
  simp only [enc_eq] at SK KR
  clear hv hq e1 hRES hkey hsup hl hfu h0 h16
  go_enter Tryz.func11, Tryz.ntmps11
  go_wp2_with fail
  refine CA.out.mono ?_
  rintro e w1 ⟨v1, rfl, ho1, hb1⟩
  have B1 := hid hb1
  have R1 := hid (show RdF w1 v1 l from RdC.of_owns cF_length ho1 (by have := ML.out; omega))
  obtain ⟨lo, lcap, rfl, -, hlc⟩ := R1.out.split
  have LC := hid hlc
  have hs1 := hb1.size
  clear ho1 hb1 hlc CA
  go_wp2_with fail
  go_loopw [8, 9, 26] (fun u sp i wr => ∃ k : Nat, k ≤ l.length ∧ i = .int .i64 k ∧ sp = .bool ((((l.take k).map fun f => f.1 ||| f.2)).any sup) ∧ wr.ownsRow w1.heap.size 55 1 u ((l.take k).map fun f => f.1 ||| f.2).length (((l.take k).map fun f => f.1 ||| f.2).map enc) ∧ Below w1.heap.size w1 wr) (fun _ _ i _ => l.length - (intOf i).toNat)
  case atStart => exact ⟨0, Nat.zero_le _, rfl, rfl, World.ownsRow_nil _ _ _ _, Below.refl _ _⟩
  case round =>
    obtain ⟨k, hk, rfl, rfl, hown, hnx⟩ := hrel
    have hsz := hnx.size
    have hpl : ((l.take k).map fun f => f.1 ||| f.2).length ≤ k := by rw [List.length_map]; exact List.length_take_le k l
    have hk2 : (k : Int) ≤ 2048 := by have := ML.out; omega
    by_cases hlt : k < l.length
    · obtain ⟨f, hf⟩ := get_some hlt
      obtain ⟨b, off, rfl, hd⟩ := LC.out k f hf
      obtain ⟨e0, e1⟩ := hd wr hnx
      have PN := hid (show (l.take (k + 1)).map (fun f => f.1 ||| f.2) = (l.take k).map (fun f => f.1 ||| f.2) ++ [f.1 ||| f.2] by rw [take_next hf, List.map_append]; rfl)
      have HLT := hid hlt
      clear hd hf hlt
      obtain ⟨ps, hps⟩ : ∃ ps, (l.take k).map (fun f => f.1 ||| f.2) = ps := ⟨_, rfl⟩
      rw [hps] at hown hpl PN ⊢
      clear hps
      have hb2 := below_alloc wr (.cells #[.int .u32 (iv f.1), .int .u32 (iv f.2)] 57)
      have HO := hid (own_below hown hb2)
      have HN := hid (hnx.trans (hb2.mono hsz))
      have HS := hid (HN.out.size)
      have HP := hid hpl
      clear hown hnx hb2 hpl
      obtain ⟨sv, hsv⟩ : ∃ sv, ps.any sup = sv := ⟨_, rfl⟩
      have SV := hid hsv
      rw [hsv]
      clear hsv
      go_wp2_with (at_builtin; refine wpList_push rfl _ _ 59 rfl w1.heap.size 55 (.int .u32 0) 4 undSets infoSet rfl (by decide) enc (fun _ => rfl) _ ps rfl (HO.out.alloc _) ⟨wr.heap.size + 1, 0, none⟩ (f.1 ||| f.2) rfl (by simp [enc]) (by have := HP.out; omega) (by have := HS.out; simp at this ⊢; omega) ?_)
      intro v' w4 hown' hgrow
      have N4 := hid (below_push HN.out HS.out HO.out hgrow)
      have O4 := hid (show w4.ownsRow w1.heap.size 55 1 v' (ps ++ [f.1 ||| f.2]).length ((ps ++ [f.1 ||| f.2]).map enc) by simpa using hown')
      clear hown' hgrow e0 e1
      cases sv with
      | true =>
        go_wp2_with fail
        go_roundw
        case rel => exact ⟨k + 1, by have := HLT.out; omega, by go_num, by rw [PN.out, List.any_append, SV.out]; rfl, by rw [PN.out]; exact O4.out, N4.out⟩
        case measure => have := HLT.out; simp [intOf]; omega
      | false =>
        go_wp2_with fail
        refine (SK.out _ _ (B1.out.trans (N4.out.mono hs1))).mono ?_
        rintro e w5 ⟨rfl, hb5⟩
        have N5 := hid (N4.out.trans (hb5.mono N4.out.size))
        have O5 := hid (own_below O4.out hb5)
        clear hb5
        go_wp2_with fail
        go_roundw
        case rel => exact ⟨k + 1, by have := HLT.out; omega, by go_num, by rw [PN.out, List.any_append, SV.out]; simp, by rw [PN.out]; exact O5.out, N5.out⟩
        case measure => have := HLT.out; simp [intOf]; omega
    · have hke : l.length ≤ k := by omega
      rw [List.take_of_length_le hke] at hown ⊢
      have HP := hid (show (l.map fun f => f.1 ||| f.2).length ≤ 2048 by rw [List.length_map]; exact ML.out)
      obtain ⟨ps, hps⟩ : ∃ ps, l.map (fun f => f.1 ||| f.2) = ps := ⟨_, rfl⟩
      rw [hps] at hown HP RS ⊢
      obtain ⟨sv, hsv⟩ : ∃ sv, ps.any sup = sv := ⟨_, rfl⟩
      rw [hsv] at RS ⊢
      have NX := hid hnx
      have HO := hid hown
      clear hps hsv hke hk hnx
      cases sv with
      | true =>
        rw [if_pos rfl, List.append_nil] at RS
        have RP := hid (RdE.of_owns HO.out (by have := HP.out; omega))
        have A1 := hid (AM.out ps _ wr RP.out (by have := HP.out; omega))
        rw [← RS.out] at A1
        have RL := hid (show RES.length ≤ 2048 by rw [RS.out]; exact Nat.le_trans (keepS_length _ _) HP.out)
        clear hown
        go_wp2_with fail
        refine A1.out.mono ?_
        rintro e w5 ⟨v5, rfl, ho5, hb5⟩
        have R5 := hid (RdE.of_owns ho5 (by have := RL.out; omega))
        have BF := hid (B1.out.trans ((NX.out.trans (hb5.mono hsz)).mono hs1))
        clear ho5 hb5
        go_wp2_with fail
        go_ret2
        exact ⟨_, rfl, R5.out, BF.out⟩
      | false =>
        rw [if_neg (by simp)] at RS
        clear hown
        go_wp2_with fail
        refine (FU.out _).mono ?_
        rintro e w' ⟨rfl, rfl⟩
        go_wp2_with fail
        refine (KR.out _ (B1.out.trans (NX.out.mono hs1))).mono ?_
        rintro e w5 ⟨rfl, hb5⟩
        have N5 := hid (NX.out.trans (hb5.mono hsz))
        have O5 := hid (own_below HO.out hb5)
        have S5 := hid N5.out.size
        clear hb5
        go_wp2_with (at_builtin; refine wpList_push rfl _ _ 59 rfl w1.heap.size 55 (.int .u32 0) 4 undSets infoSet rfl (by decide) enc (fun _ => rfl) _ ps rfl (O5.out.alloc _) ⟨w5.heap.size, 0, none⟩ key rfl (by simp [enc]) (by have := HP.out; omega) (by have := S5.out; simp; omega) ?_)
        intro v' w6 hown' hgrow
        have N6 := hid (below_push N5.out S5.out O5.out hgrow)
        have O6 := hid (show w6.ownsRow w1.heap.size 55 1 v' (ps ++ [key]).length ((ps ++ [key]).map enc) by simpa using hown')
        have HP6 := hid (show (ps ++ [key]).length ≤ 2049 by rw [List.length_append, List.length_singleton]; have := HP.out; omega)
        have RP := hid (RdE.of_owns O6.out (by have := HP6.out; omega))
        have A1 := hid (AM.out (ps ++ [key]) _ w6 RP.out (by have := HP6.out; omega))
        rw [← RS.out] at A1
        have RL := hid (show RES.length ≤ 2049 by rw [RS.out]; exact Nat.le_trans (keepS_length _ _) HP6.out)
        clear hown' hgrow
        go_wp2_with fail
        refine A1.out.mono ?_
        rintro e w7 ⟨v7, rfl, ho7, hb7⟩
        have R7 := hid (RdE.of_owns ho7 (by have := RL.out; omega))
        have BF := hid (B1.out.trans ((N6.out.trans (hb7.mono N6.out.size)).mono hs1))
        clear ho7 hb7
        go_wp2_with fail
        go_ret2
        exact ⟨_, rfl, R7.out, BF.out⟩

end Go.Proofs.YtgahpgmagfngfaaGreatDoor


/- The walk of awake34: the example of the theorems of layer 34 holds. -/
namespace Go.Proofs.YtgahpgmagfngfaaGreatDoor
open Go.RowKit
set_option linter.unusedVariables false

theorem fsame_lit (l : List F) (v : Value) (W : World) (o : Obj) (ho : o = .cells (l.flatMap cF).toArray 57) (m : Nat) (hm : m = l.length) (hl : l.length ≤ 1000) (h : RdF W v l) :
    Calls Tryz.prog 16 #[v, .slice (some ⟨W.heap.size, 0, none⟩) m m] (W.alloc o) fun e w' => e = .returned (.bool true) ∧ Below W.heap.size W w' := by
  subst ho hm
  refine (fsame9_any l v _ _ (RdC.below h (below_alloc _ _)) (RdC.lit cF_length W l _ hl (by decide))).mono fun e w' ⟨he, hb⟩ => ⟨he, (below_alloc _ _).trans (hb.mono (below_alloc W _).size)⟩

set_option maxHeartbeats 3200000 in
set_option maxRecDepth 100000 in
theorem awake34_any (w : World) (hT : Tab w) : Calls Tryz.prog 5 #[] w fun e w' => e = .returned (.bool true) ∧ Below w.heap.size w w' := by
  have HT := hid hT
  have LA := hid (fun (W : World) => lit_call (fs := a34F) (m := 2) (o := .cells #[.int .u32 1, .int .u32 2, .int .u32 2, .int .u32 4] 57) rfl (by decide) rfl W)
  have C1 := hid (fun (v : Value) (W : World) (hb : Below w.heap.size w W) (h : RdF W v a34F) => show Calls Tryz.prog 11 #[.int .i64 3, v] W fun e w' => ∃ v', e = .returned (.tuple #[v', .int .i64 0]) ∧ RdE enc w' v' [3#32, 6#32] ∧ Below W.heap.size W w' from by
    have h1 := synth_any 3 a34F v W (hT.below hb) h a34_valid
    rw [show synR ((3 : Nat) : Int) a34F = [3#32, 6#32] from a34_syn] at h1
    exact h1)
  have C2 := hid (fun (v : Value) (W : World) (h : RdF W v a34F) => show Calls Tryz.prog 12 #[.int .i64 3, v] W fun e w' => ∃ av tv rs, e = .returned (.tuple #[.agg #[.string (ByteArray.mk #[116]), av, tv], .int .i64 0]) ∧ RdT w' av tv (armT 3 rs) ∧ rs.map (fun r => (r.1, r.2.2)) = armR 3 [7#32, 0#32, 4#32, 6#32] ∧ Below W.heap.size W w' from
    (build_any 3 a34F v W h (by decide) a34_valid).mono fun e w' ⟨av, tv, L, rs, he, ht, hm, hL, _, hb⟩ => ⟨av, tv, rs, he, ht, by rw [hm, a34_closed hL, a34_irr], hb⟩)
  have C3 := hid (fun (rs : List Row3) (hm : rs.map (fun r => (r.1, r.2.2)) = armR 3 [7#32, 0#32, 4#32, 6#32]) (av tv : Value) (W : World) (hb : Below w.heap.size w W) (ht : RdT W av tv (armT 3 rs)) => show Calls Tryz.prog 13 #[.agg #[.string (ByteArray.mk #[116]), av, tv]] W fun e w' => ∃ v', e = .returned (.tuple #[v', .int .i64 0]) ∧ RdF w' v' [(1#32, 2#32), (1#32, 4#32), (2#32, 4#32)] ∧ Below W.heap.size W w' from by
    have h1 := fall_any (armT 3 rs) av tv W ht (hT.below hb) (fun _ => (a34_tab hm).2.2.2.1)
    rw [(a34_tab hm).2.1, a34_allR hm] at h1
    exact h1)
  have C4 := hid (fun (rs : List Row3) (hm : rs.map (fun r => (r.1, r.2.2)) = armR 3 [7#32, 0#32, 4#32, 6#32]) (av tv : Value) (W : World) (ht : RdT W av tv (armT 3 rs)) => show Calls Tryz.prog 14 #[.agg #[.string (ByteArray.mk #[116]), av, tv]] W fun e w' => ∃ v', e = .returned (.tuple #[v', .int .i64 0]) ∧ RdE enc w' v' [1#32] ∧ Below W.heap.size W w' from by
    have h1 := kall_any (armT 3 rs) av tv W ht
    rw [(a34_tab hm).2.2.1, a34_keys hm] at h1
    exact h1.mono fun e w' ⟨v', he, ho, _, hb⟩ => ⟨v', he, RdE.of_owns ho (by decide), hb⟩)
  have E1 := hid (fun (v : Value) (W : World) (h : RdE enc W v [3#32, 6#32]) => ssame_lit [3#32, 6#32] v W (.cells #[.int .u32 3, .int .u32 6] 55) rfl 2 rfl (by decide) h)
  have E2 := hid (fun (v : Value) (W : World) (h : RdF W v [(1#32, 2#32), (1#32, 4#32), (2#32, 4#32)]) => fsame_lit [(1#32, 2#32), (1#32, 4#32), (2#32, 4#32)] v W (.cells #[.int .u32 1, .int .u32 2, .int .u32 1, .int .u32 4, .int .u32 2, .int .u32 4] 57) rfl 3 rfl (by decide) h)
  have E3 := hid (fun (v : Value) (W : World) (h : RdE enc W v [1#32]) => ssame_lit [1#32] v W (.cells #[.int .u32 1] 55) rfl 1 rfl (by decide) h)
  clear hT
  go_enter Tryz.func5, Tryz.ntmps5
  go_wp2_with fail
  have B0 := hid (LA.out w).2
  have Q0 := hid (LA.out w).1
  refine (C1.out _ _ B0.out Q0.out).mono ?_
  rintro e w1 ⟨v1, rfl, hr1, hb1⟩
  have R1 := hid hr1
  have Q1 := hid (RdC.below Q0.out hb1)
  have B1 := hid (B0.out.trans (hb1.mono B0.out.size))
  clear hr1 hb1 Q0 B0
  go_wp2_with fail
  refine (C2.out _ _ Q1.out).mono ?_
  rintro e w2 ⟨av, tv, rs, rfl, ht2, hm2, hb2⟩
  have K3 := hid (C3.out rs hm2)
  have K4 := hid (C4.out rs hm2)
  have T2 := hid ht2
  have B2 := hid (B1.out.trans (hb2.mono B1.out.size))
  replace R1 := hid (R1.out.below hb2)
  obtain ⟨ao, an, acap, rfl⟩ : ∃ ao an acap, av = .slice ao an acap := by obtain ⟨a, c, h, -⟩ := ht2.1.split; exact ⟨_, _, _, h⟩
  obtain ⟨to, tn, tcap, rfl⟩ : ∃ ao an acap, tv = .slice ao an acap := by obtain ⟨a, c, h, -⟩ := RdR.split ht2.2; exact ⟨_, _, _, h⟩
  have hbx := below_alloc w2 (.cells #[.string (ByteArray.mk #[116]), .slice ao an acap, .slice to tn tcap] 48)
  have CC := hid (fun W h => cells3 (w := w2) (a := .string (ByteArray.mk #[116])) (b := .slice ao an acap) (c := .slice to tn tcap) (t := 48) W h)
  have T3 := hid (ht2.below hbx)
  replace R1 := hid (R1.out.below hbx)
  have B3 := hid (B2.out.trans (hbx.mono B2.out.size))
  obtain ⟨c0, c1, c2⟩ := CC.out _ (Below.refl _ _)
  obtain ⟨w3, hw3⟩ : ∃ w3 : World, w2.alloc (.cells #[.string (ByteArray.mk #[116]), .slice ao an acap, .slice to tn tcap] 48) = w3 := ⟨_, rfl⟩
  have W3 := hid hw3
  clear hb2 ht2 hm2 hbx hw3 C1 C2 C3 C4 T2 Q1
  go_wp2_with fail
  rw [W3.out] at CC T3 R1 B3 ⊢
  refine (K3.out _ _ _ B3.out T3.out).mono ?_
  rintro e w4 ⟨v4, rfl, hr4, hb4⟩
  have R4 := hid hr4
  have B4 := hid (B3.out.trans (hb4.mono B3.out.size))
  replace R1 := hid (R1.out.below hb4)
  replace T3 := hid (T3.out.below hb4)
  clear c0 c1 c2
  obtain ⟨c0, c1, c2⟩ := CC.out _ hb4
  clear hr4 hb4 K3
  go_wp2_with fail
  refine (K4.out _ _ _ T3.out).mono ?_
  rintro e w5 ⟨v5, rfl, hr5, hb5⟩
  have R5 := hid hr5
  have B5 := hid (B4.out.trans (hb5.mono B4.out.size))
  replace R1 := hid (R1.out.below hb5)
  replace R4 := hid (RdC.below R4.out hb5)
  clear hr5 hb5 K4 c0 c1 c2
  go_wp2_with fail
  refine (E1.out _ _ R1.out).mono ?_
  rintro e w6 ⟨rfl, hb6⟩
  have B6 := hid (B5.out.trans (hb6.mono B5.out.size))
  replace R4 := hid (RdC.below R4.out hb6)
  replace R5 := hid (R5.out.below hb6)
  clear hb6
  go_wp2_with fail
  refine (E2.out _ _ R4.out).mono ?_
  rintro e w7 ⟨rfl, hb7⟩
  have B7 := hid (B6.out.trans (hb7.mono B6.out.size))
  replace R5 := hid (R5.out.below hb7)
  clear hb7
  go_wp2_with fail
  refine (E3.out _ _ R5.out).mono ?_
  rintro e w8 ⟨rfl, hb8⟩
  have B8 := hid (B7.out.trans (hb8.mono B7.out.size))
  clear hb8
  go_wp2_with fail
  go_ret
  exact ⟨rfl, B8.out⟩

end Go.Proofs.YtgahpgmagfngfaaGreatDoor

