/- The walks of the reference's All and Smallest, of Witness, and of the program's Smallest. -/
import Derived.Test.YtciamnkalmihcaaRefT
namespace Go.Proofs.Ytciamnkalmihcaa
open Go.RowKit

def candL (xs : List S) (k : Nat) : List S := ((List.range k).map (BitVec.ofNat 32)).filter (minS xs)
theorem candL_next (xs : List S) (k : Nat) : candL xs (k + 1) = candL xs k ++ if minS xs (BitVec.ofNat 32 k) then [BitVec.ofNat 32 k] else [] := by
  unfold candL
  rw [List.range_succ, List.map_append, List.filter_append]
  cases h : minS xs (BitVec.ofNat 32 k) <;> simp [h]
theorem candL_length (xs : List S) (k : Nat) : (candL xs k).length ≤ k := by
  unfold candL
  exact Nat.le_trans (List.length_filter_le _ _) (by simp)
theorem mem_candL {xs : List S} {k : Nat} {s : S} : s ∈ candL xs k ↔ (∃ i, i < k ∧ BitVec.ofNat 32 i = s) ∧ minS xs s = true := by
  unfold candL
  rw [List.mem_filter, List.mem_map]
  simp [List.mem_range]

set_option maxHeartbeats 800000 in
theorem refAll_any (n : Int) (xs : List S) (v : Value) (w : World) (hv : RdE enc w v xs) (hval : validS n xs = 0) :
    Calls Try.prog 39 #[.int .i64 n, v] w fun e w' => ∃ v', e = .returned (.tuple #[v', .int .i64 0]) ∧ w'.ownsRow w.heap.size 24 1 v' (allS xs).length ((allS xs).map enc) ∧ (allS xs).length ≤ 65536 ∧ Below w.heap.size w w' := by
  obtain ⟨hn0, hn16, h200, hbits⟩ := valid_bits hval
  obtain ⟨m, rfl⟩ := Int.eq_ofNat_of_zero_le hn0
  have hm : m ≤ 16 := by omega
  rw [Int.toNat_natCast] at hbits
  have hp : 2 ^ m ≤ 65536 := Nat.pow_le_pow_right (n := 2) (by omega) hm
  have hp0 : 0 < 2 ^ m := Nat.two_pow_pos m
  have C1 := hid (refValid_any m xs v w hv)
  have C2 := hid (fun (s : S) (w' : World) (hb : Below w.heap.size w w') => refMinimal_any xs s v w' (hv.below hb))
  have C3 := hid (full_any m)
  have hmin : min (m : Int).toNat 32 = m := by omega
  rw [hmin] at C3
  have hfu : iv (fullN m) = ((2 ^ m - 1 : Nat) : Int) := by unfold iv; rw [fullN_toNat m (by omega)]
  have hfin : ∀ ys, IsOrd ys (· ∈ candL xs (2 ^ m)) → ys = allS xs := fun ys h => h.uniq (allS_ord xs) (fun s => by
    rw [mem_candL]
    constructor
    · exact fun h => h.2
    · intro h
      have := lt_of_bits (min_within h hbits)
      exact ⟨⟨s.toNat, this, by apply BitVec.eq_of_toNat_eq; simp⟩, h⟩)
  have FIN := hid hfin
  have ORD := hid (fun (v : Value) (w : World) (hv : RdE enc w v (candL xs (2 ^ m))) => refOrder_any (candL xs (2 ^ m)) v w hv (by have := candL_length xs (2 ^ m); omega))
  have HV := hid hval
  have FU := hid hfu
  clear hval hbits hv hn0 hn16 hmin hfin hfu
  generalize 2 ^ m = N at *
  generalize fullN m = fu at *
  unfold enc at C2 C3
  go_enter Try.func39, Try.ntmps39
  go_wp2_with fail
  refine C1.out.mono ?_
  rw [HV.out]
  rintro e w1 ⟨rfl, hb1⟩
  have B1 := hid hb1
  clear hb1 C1
  go_wp2_with fail
  go_loopw [7, 8] (fun u i wr => ∃ (k : Nat) (s : S), k ≤ N ∧ i = .int .u32 (iv s) ∧ Hid (s = BitVec.ofNat 32 k) ∧ wr.ownsRow w.heap.size 24 1 u (candL xs k).length ((candL xs k).map enc) ∧ Below w.heap.size w wr) (fun _ i _ => N - (intOf i).toNat)
  case atStart => exact ⟨0, 0#32, Nat.zero_le _, rfl, hid rfl, World.ownsRow_nil _ _ _ _, B1.out⟩
  case round =>
    obtain ⟨wo, rfl⟩ : ∃ wo : World, wo = wr := ⟨_, rfl⟩
    obtain ⟨k, s, hk, rfl, HS, hown, hnx⟩ := hrel
    have hsz := hnx.size
    have hsk : s.toNat = k := by rw [HS.out, BitVec.toNat_ofNat]; omega
    have hiv : iv s = (k : Int) := by unfold iv; rw [hsk]
    have hcl := candL_length xs k
    have HO := hid hown
    by_cases hlt : k < N
    · have hle : iv s ≤ iv fu := by rw [hiv, FU.out]; omega
      have hnext : s + 1#32 = BitVec.ofNat 32 (k + 1) := by rw [HS.out, BitVec.ofNat_add]
      have hiv1 : iv (s + 1#32) = ((k + 1 : Nat) : Int) := by rw [hnext]; unfold iv; rw [BitVec.toNat_ofNat]; omega
      have NX := hid hnext
      have IV := hid hiv
      have IV1 := hid hiv1
      have CN := candL_next xs k
      rw [← HS.out] at CN
      clear hsk hiv hnext hiv1 hown
      cases hq : minS xs s with
      | true =>
        rw [hq, if_pos rfl] at CN
        have CN2 := hid CN
        have HQ := hid hq
        clear CN hq
        go_wp2_with fail
        refine (C3.out _).mono ?_
        rintro e w2 ⟨rfl, rfl⟩
        go_wp2_with fail
        refine (C2.out s _ hnx).mono ?_
        rw [HQ.out]
        rintro e w2 ⟨rfl, rfl⟩
        go_wp2_with (at_builtin; refine wpList_push rfl _ _ 34 rfl w.heap.size 24 (.int .u32 0) 4 undSets infoSet rfl (by decide) enc (fun _ => rfl) _ (candL xs k) rfl (HO.out.alloc _) ⟨wo.heap.size, 0, none⟩ s rfl cell_new (by omega) (by simp; omega) ?_)
        intro v' w4 hown' hgrow
        have hb4 := below_push hnx hsz HO.out hgrow
        have OW : w4.ownsRow w.heap.size 24 1 v' (candL xs (k + 1)).length ((candL xs (k + 1)).map enc) := by rw [CN2.out]; simpa using hown'
        clear hgrow hown' hnx hle
        go_wp2_with fail
        go_roundw
        case rel => exact ⟨k + 1, s + 1#32, by omega, rfl, NX, OW, hb4⟩
        case measure => simp only [intOf]; rw [IV.out, IV1.out]; omega
      | false =>
        rw [hq, if_neg (by simp), List.append_nil] at CN
        have CN2 := hid CN
        have HQ := hid hq
        clear CN hq
        go_wp2_with fail
        refine (C3.out _).mono ?_
        rintro e w2 ⟨rfl, rfl⟩
        go_wp2_with fail
        refine (C2.out s _ hnx).mono ?_
        rw [HQ.out]
        rintro e w2 ⟨rfl, rfl⟩
        go_wp2_with fail
        go_roundw
        case rel => exact ⟨k + 1, s + 1#32, by omega, rfl, NX, by rw [CN2.out]; exact HO.out, hnx⟩
        case measure => simp only [intOf]; rw [IV.out, IV1.out]; omega
    · obtain rfl : k = N := by omega
      have hgt : ¬ iv s ≤ iv fu := by rw [hiv, FU.out]; omega
      have C := hid (ORD.out u7 wo (RdE.of_owns hown (by omega)))
      have HB := hid hnx
      clear hown hnx hsk hiv
      go_wp2_with fail
      refine (C3.out _).mono ?_
      rintro e w2 ⟨rfl, rfl⟩
      go_wp2_with fail
      refine C.out.mono ?_
      rintro e w5 ⟨v5, ys, rfl, hown5, hord, hlen, hb5⟩
      have hys := FIN.out ys hord
      have O5 := hid (own_mono hown5 hsz)
      have B5 := hid (HB.out.trans (hb5.mono hsz))
      have YS := hid hys
      clear hown5 hb5 hys hord
      go_wp2_with fail
      go_ret2
      rw [← YS.out]
      exact ⟨_, rfl, O5.out, by omega, B5.out⟩

/-- A hypergraph that is not valid: the error, of both. -/
theorem all_err (n : Int) (xs : List S) (v : Value) (w : World) (hv : RdE enc w v xs) (hval : validS n xs ≠ 0) :
    Calls Try.prog 102 #[.int .i64 n, v] w fun e w' => e = .returned (.tuple #[.slice none 0 0, .int .i64 (validS n xs)]) ∧ Below w.heap.size w w' := by
  have C1 := hid (valid_any n xs v w hv)
  have hne : (validS n xs != 0) = true := by simpa using hval
  generalize validS n xs = r at *
  clear hval hv
  go_enter Try.func102, Try.ntmps102
  go_wp2_with fail
  refine C1.out.mono ?_
  rintro e w1 ⟨rfl, hb1⟩
  have B1 := hid hb1
  clear hb1 C1
  go_wp2_with fail
  go_ret2
  exact ⟨rfl, B1.out⟩
theorem refAll_err (n : Int) (xs : List S) (v : Value) (w : World) (hv : RdE enc w v xs) (hval : validS n xs ≠ 0) :
    Calls Try.prog 39 #[.int .i64 n, v] w fun e w' => e = .returned (.tuple #[.slice none 0 0, .int .i64 (validS n xs)]) ∧ Below w.heap.size w w' := by
  have C1 := hid (refValid_any n xs v w hv)
  have hne : (validS n xs != 0) = true := by simpa using hval
  generalize validS n xs = r at *
  clear hval hv
  go_enter Try.func39, Try.ntmps39
  go_wp2_with fail
  refine C1.out.mono ?_
  rintro e w1 ⟨rfl, hb1⟩
  have B1 := hid hb1
  clear hb1 C1
  go_wp2_with fail
  go_ret2
  exact ⟨rfl, B1.out⟩

end Go.Proofs.Ytciamnkalmihcaa
