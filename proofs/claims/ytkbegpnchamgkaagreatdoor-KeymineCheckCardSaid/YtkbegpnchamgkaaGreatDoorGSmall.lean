/- Texts that belong together, in one file. -/
import Derived.Test.YtkbegpnchamgkaaGreatDoorGWalk
import Derived.Test.YtkbegpnchamgkaaGreatDoorGSort
import Derived.Test.YtkbegpnchamgkaaGreatDoorGPlain
import Derived.Test.YtkbegpnchamgkaaGreatDoorGOrd
/- The walks of the two Minimal. -/
namespace Go.Proofs.YtkbegpnchamgkaaGreatDoor
open Go.RowKit

theorem refHitsW (xs : List S) (s : S) (v : Value) (w : World) (hv : RdE enc w v xs) :
    Calls Tryz.prog 101 #[v, enc s] w fun e w' => e = .returned (.bool (hitsS xs s)) ∧ w = w' := refHits_any xs s v w hv

theorem refMinimal_any (xs : List S) (s : S) (v : Value) (w : World) (hv : RdE enc w v xs) :
    Calls Tryz.prog 78 #[v, enc s] w fun e w' => e = .returned (.bool (minS xs s)) ∧ w = w' := by
  have C := hid (fun s => refHitsW xs s v w hv)
  cases hh : hitsS xs s with
  | false =>
    have e : minS xs s = false := by simp [minS, hh]
    rw [e]; clear e
    have HH := hid hh
    clear hh
    unfold enc at *
    go_enter Tryz.func78, Tryz.ntmps78
    go_wp2_with fail
    refine (C.out s).mono ?_
    rw [HH.out]
    rintro e w' ⟨rfl, rfl⟩
    go_wp2_with fail
    go_ret
    exact ⟨rfl, rfl⟩
  | true =>
    have e : minS xs s = !leaves xs s 32 := by simp [minS, hh]
    rw [e]; clear e
    have HH := hid hh
    clear hh hv
    unfold enc at *
    go_enter Tryz.func78, Tryz.ntmps78
    go_wp2_with fail
    refine (C.out s).mono ?_
    rw [HH.out]
    rintro e w' ⟨rfl, rfl⟩
    go_wp2_with fail
    go_loop [5] (fun i => ∃ k : Nat, k ≤ 32 ∧ i = .int .i64 k ∧ Hid (leaves xs s k = false)) (fun i => 32 - (intOf i).toNat)
    case atStart => exact ⟨0, Nat.zero_le _, rfl, hid (leaves_zero _ _)⟩
    case round =>
      obtain ⟨k, hk, rfl, H⟩ := hrel
      by_cases hlt : k < 32
      · have hb := bit_and s k hlt
        cases hs : s.getLsbD k with
        | false =>
          rw [hs] at hb
          have HS := hid hs
          clear hs
          go_wp2_with fail
          go_round
          case rel => exact ⟨k + 1, by omega, by go_num, hid (leaves_next H.out (by simp [HS.out]))⟩
          case measure => simp [intOf]; omega
        | true =>
          rw [hs] at hb
          have HS := hid hs
          clear hs
          cases hq : hitsS xs (s &&& ~~~ bit k) with
          | true =>
            have HQ := hid hq
            clear hq
            go_wp2_with fail
            refine (C.out (s &&& ~~~ bit k)).mono ?_
            rw [HQ.out]
            rintro e w' ⟨rfl, rfl⟩
            go_wp2_with fail
            go_ret
            exact ⟨ret_bool (by rw [leaves_hit hlt (by simp [HS.out, HQ.out])]; rfl), rfl⟩
          | false =>
            have HQ := hid hq
            clear hq
            go_wp2_with fail
            refine (C.out (s &&& ~~~ bit k)).mono ?_
            rw [HQ.out]
            rintro e w' ⟨rfl, rfl⟩
            go_wp2_with fail
            go_round
            case rel => exact ⟨k + 1, by omega, by go_num, hid (leaves_next H.out (by simp [HS.out, HQ.out]))⟩
            case measure => simp [intOf]; omega
      · obtain rfl : k = 32 := by omega
        go_wp2_with fail
        go_ret
        exact ⟨ret_bool (by rw [H.out]; rfl), rfl⟩

end Go.Proofs.YtkbegpnchamgkaaGreatDoor


/- The walk of transversal.All: edge by edge. -/
namespace Go.Proofs.YtkbegpnchamgkaaGreatDoor
open Go.RowKit

theorem valid_bits {n : Int} {xs : List S} (h : validS n xs = 0) : 0 ≤ n ∧ n ≤ 16 ∧ xs.length ≤ 200 ∧ ∀ x ∈ xs, ∀ i, i < 32 → n.toNat ≤ i → x.getLsbD i = false := by
  unfold validS at h
  split at h
  · cases h
  · rename_i h1
    split at h
    · cases h
    · rename_i h2
      split at h
      · cases h
      · rename_i h3
        refine ⟨by omega, by omega, by omega, fun x hx i hi hn => ?_⟩
        have h3 : (xs.any fun x => x >>> n.toNat != 0#32) = false := by simpa using h3
        rw [List.any_eq_false] at h3
        have h4 := h3 x hx
        have h4 : x >>> n.toNat = 0#32 := by simpa using h4
        have := congrArg (fun x : S => x.getLsbD (i - n.toNat)) h4
        simp only [BitVec.getLsbD_ushiftRight, BitVec.getLsbD_zero] at this
        rwa [show n.toNat + (i - n.toNat) = i by omega] at this

theorem allL_bound {n : Nat} {xs : List S} (hn : n ≤ 16) (hx : ∀ x ∈ xs, ∀ i, i < 32 → n ≤ i → x.getLsbD i = false) (k : Nat) (hk : k ≤ (redS xs).length) : (allL ((redS xs).take k)).length ≤ 65536 := by
  have ho := allL_ord (redS xs) k hk
  have h := ord_bound (n := 2 ^ n) ho.1 (fun s hs => lt_of_bits (min_within ((ho.2 s).1 hs) (fun x hxm => hx x (((redS_ord xs).2 x).1 (List.mem_of_mem_take hxm)).1)))
  exact Nat.le_trans h (Nat.pow_le_pow_right (by omega) hn)


end Go.Proofs.YtkbegpnchamgkaaGreatDoor


/- The walks of the reference's layer 7: Valid, All, Reduce, Smallest, Witness. -/
namespace Go.Proofs.YtkbegpnchamgkaaGreatDoor
open Go.RowKit

/-- Valid of the reference. -/
theorem refValid_any (n : Int) (xs : List S) (v : Value) (w : World) (hv : RdE enc w v xs) :
    Calls Tryz.prog 77 #[.int .i64 n, v] w fun e w' => e = .returned (.int .i64 (validS n xs)) ∧ Below w.heap.size w w' := by
  obtain ⟨ao, cap, rfl, -, -, h3⟩ := hv
  by_cases hn : n < 0 ∨ 16 < n
  · have e : validS n xs = 1 := by unfold validS; rw [if_pos hn]
    rw [e]; clear e
    go_enter Tryz.func77, Tryz.ntmps77
    rcases hn with hn | hn
    · go_wp2_with fail
      go_ret
      exact ⟨rfl, Below.refl _ _⟩
    · have h0 : ¬ n < 0 := by omega
      go_wp2_with fail
      go_ret
      exact ⟨rfl, Below.refl _ _⟩
  · have h0 : ¬ n < 0 := by omega
    have h1 : ¬ 16 < n := by omega
    by_cases hl : 200 < xs.length
    · have e : validS n xs = 3 := by unfold validS; rw [if_neg hn, if_pos hl]
      rw [e]; clear e hn
      go_enter Tryz.func77, Tryz.ntmps77
      go_wp2_with fail
      go_ret
      exact ⟨rfl, Below.refl _ _⟩
    · have e : validS n xs = if xs.any (fun x => x >>> n.toNat != 0#32) then 1 else 0 := by unfold validS; rw [if_neg hn, if_neg hl]
      have E := hid e
      have C := hid (full_any n)
      have hmin : min n.toNat 32 = n.toNat := by omega
      rw [hmin] at C
      have OV := hid (fun x => over_full x n.toNat)
      clear e hn hmin
      unfold enc at h3 C
      go_enter Tryz.func77, Tryz.ntmps77
      go_wp2_with fail
      go_loopw [5] (fun i wr => ∃ k : Nat, k ≤ xs.length ∧ i = .int .i64 k ∧ Below w.heap.size w wr ∧ Hid ((xs.take k).any (fun x => x >>> n.toNat != 0#32) = false)) (fun i _ => xs.length - (intOf i).toNat)
      case atStart => exact ⟨0, Nat.zero_le _, rfl, Below.refl _ _, hid rfl⟩
      case round =>
        obtain ⟨k, hk, rfl, hnx, H⟩ := hrel
        by_cases hlt : k < xs.length
        · obtain ⟨b, off, rfl, hb, hc⟩ := h3 (by omega)
          obtain ⟨x, hx⟩ := get_some hlt
          have e1 := (hnx.cell (p := ⟨b, off + k, none⟩) hb).trans (hc k x hx)
          have HN := hid hnx
          clear hnx
          clear hc h3
          have X := hid hx
          clear hx
          have ov := OV.out x
          generalize fullN n.toNat = fu at *
          cases hq : (x >>> n.toNat != 0#32) with
          | true =>
            rw [hq] at ov
            have HQ := hid hq
            clear hq
            go_wp2_with fail
            go_quiet ((go_at_call 9; exact Calls.quiet_of_same ((C.out _).mono (fun _ _ h => ⟨h.1, h.2.symm⟩))))
            go_wp2_with fail
            go_ret
            exact ⟨by rw [E.out, if_pos (any_hit (p := fun x : S => x >>> n.toNat != 0#32) X.out HQ.out)]; rfl, HN.out.trans (below_drewN _ _ _)⟩
          | false =>
            rw [hq] at ov
            have HQ := hid hq
            clear hq
            go_wp2_with fail
            go_quiet ((go_at_call 9; exact Calls.quiet_of_same ((C.out _).mono (fun _ _ h => ⟨h.1, h.2.symm⟩))))
            go_wp2_with fail
            go_roundw
            case rel => exact ⟨k + 1, by omega, by go_num, HN.out.trans (below_drewN _ _ _), hid (none_next (p := fun x : S => x >>> n.toNat != 0#32) X.out HQ.out H.out)⟩
            case measure => simp [intOf]; omega
        · go_wp2_with fail
          go_ret
          exact ⟨by rw [E.out, if_neg (by rw [any_end H.out hlt]; simp)]; rfl, hnx⟩

/-- The edges with no other one in them. -/
def least (xs : List S) (e : S) : Bool := !xs.any (fun f => f != e && (f &&& ~~~ e == 0#32))
def leastL (xs : List S) (k : Nat) : List S := (xs.take k).filter (least xs)
theorem leastL_next {xs : List S} {k : Nat} {x : S} (h : xs[k]? = some x) : leastL xs (k + 1) = leastL xs k ++ if least xs x then [x] else [] := by
  unfold leastL; rw [take_next h, List.filter_append]; cases hh : least xs x <;> simp [hh]
theorem leastL_length (xs : List S) (k : Nat) : (leastL xs k).length ≤ xs.length := by
  unfold leastL
  exact Nat.le_trans (List.length_filter_le _ _) (by rw [List.length_take]; exact Nat.min_le_right _ _)
theorem least_iff {xs : List S} {e : S} : least xs e = true ↔ ∀ f ∈ xs, sub f e → f = e := by
  unfold least
  rw [Bool.not_eq_true', List.any_eq_false]
  constructor
  · intro h f hf hs
    have := h f hf
    simp only [Bool.and_eq_true, bne_iff_ne, beq_iff_eq, andNot_zero_iff, not_and] at this
    apply Classical.byContradiction
    intro hne
    exact this hne hs
  · intro h f hf
    simp only [Bool.and_eq_true, bne_iff_ne, beq_iff_eq, andNot_zero_iff, not_and]
    exact fun hne hs => hne (h f hf hs)


end Go.Proofs.YtkbegpnchamgkaaGreatDoor


/- The walks of the reference's All and Smallest, of Witness, and of the program's Smallest. -/
namespace Go.Proofs.YtkbegpnchamgkaaGreatDoor
open Go.RowKit

def candL (xs : List S) (k : Nat) : List S := ((List.range k).map (BitVec.ofNat 32)).filter (minS xs)
theorem candL_next (xs : List S) (k : Nat) : candL xs (k + 1) = candL xs k ++ if minS xs (BitVec.ofNat 32 k) then [BitVec.ofNat 32 k] else [] := by
  unfold candL
  rw [List.range_succ, List.map_append, List.filter_append]
  cases h : minS xs (BitVec.ofNat 32 k) <;> simp [h]
theorem candL_length (xs : List S) (k : Nat) : (candL xs k).length ≤ k := by
  unfold candL
  exact Nat.le_trans (List.length_filter_le _ _) (by simp)
theorem mem_candL {xs : List S} {k : Nat} {s : S} : s ∈ candL xs k ↔ (∃ i, i < k ∧ BitVec.ofNat 32 i = s) ∧ minS xs s = true := by
  unfold candL
  rw [List.mem_filter, List.mem_map]
  simp [List.mem_range]

set_option maxHeartbeats 800000 in
theorem refAll_any (n : Int) (xs : List S) (v : Value) (w : World) (hv : RdE enc w v xs) (hval : validS n xs = 0) :
    Calls Tryz.prog 50 #[.int .i64 n, v] w fun e w' => ∃ v', e = .returned (.tuple #[v', .int .i64 0]) ∧ w'.ownsRow w.heap.size 33 1 v' (allS xs).length ((allS xs).map enc) ∧ (allS xs).length ≤ 65536 ∧ Below w.heap.size w w' := by
  obtain ⟨hn0, hn16, h200, hbits⟩ := valid_bits hval
  obtain ⟨m, rfl⟩ := Int.eq_ofNat_of_zero_le hn0
  have hm : m ≤ 16 := by omega
  rw [Int.toNat_natCast] at hbits
  have hp : 2 ^ m ≤ 65536 := Nat.pow_le_pow_right (n := 2) (by omega) hm
  have hp0 : 0 < 2 ^ m := Nat.two_pow_pos m
  have C1 := hid (refValid_any m xs v w hv)
  have C2 := hid (fun (s : S) (w' : World) (hb : Below w.heap.size w w') => refMinimal_any xs s v w' (hv.below hb))
  have C3 := hid (full_any m)
  have hmin : min (m : Int).toNat 32 = m := by omega
  rw [hmin] at C3
  have hfu : iv (fullN m) = ((2 ^ m - 1 : Nat) : Int) := by unfold iv; rw [fullN_toNat m (by omega)]
  have hfin : ∀ ys, IsOrd ys (· ∈ candL xs (2 ^ m)) → ys = allS xs := fun ys h => h.uniq (allS_ord xs) (fun s => by
    rw [mem_candL]
    constructor
    · exact fun h => h.2
    · intro h
      have := lt_of_bits (min_within h hbits)
      exact ⟨⟨s.toNat, this, by apply BitVec.eq_of_toNat_eq; simp⟩, h⟩)
  have FIN := hid hfin
  have ORD := hid (fun (v : Value) (w : World) (hv : RdE enc w v (candL xs (2 ^ m))) => refOrder_any (candL xs (2 ^ m)) v w hv (by have := candL_length xs (2 ^ m); omega))
  have HV := hid hval
  have FU := hid hfu
  clear hval hbits hv hn0 hn16 hmin hfin hfu
  generalize 2 ^ m = N at *
  generalize fullN m = fu at *
  unfold enc at C2 C3
  go_enter Tryz.func50, Tryz.ntmps50
  go_wp2_with fail
  refine C1.out.mono ?_
  rw [HV.out]
  rintro e w1 ⟨rfl, hb1⟩
  have B1 := hid hb1
  clear hb1 C1
  go_wp2_with fail
  go_loopw [7, 8] (fun u i wr => ∃ (k : Nat) (s : S), k ≤ N ∧ i = .int .u32 (iv s) ∧ Hid (s = BitVec.ofNat 32 k) ∧ wr.ownsRow w.heap.size 33 1 u (candL xs k).length ((candL xs k).map enc) ∧ Below w.heap.size w wr) (fun _ i _ => N - (intOf i).toNat)
  case atStart => exact ⟨0, 0#32, Nat.zero_le _, rfl, hid rfl, World.ownsRow_nil _ _ _ _, B1.out⟩
  case round =>
    obtain ⟨wo, rfl⟩ : ∃ wo : World, wo = wr := ⟨_, rfl⟩
    obtain ⟨k, s, hk, rfl, HS, hown, hnx⟩ := hrel
    have hsz := hnx.size
    have hsk : s.toNat = k := by rw [HS.out, BitVec.toNat_ofNat]; omega
    have hiv : iv s = (k : Int) := by unfold iv; rw [hsk]
    have hcl := candL_length xs k
    have HO := hid hown
    by_cases hlt : k < N
    · have hle : iv s ≤ iv fu := by rw [hiv, FU.out]; omega
      have hnext : s + 1#32 = BitVec.ofNat 32 (k + 1) := by rw [HS.out, BitVec.ofNat_add]
      have hiv1 : iv (s + 1#32) = ((k + 1 : Nat) : Int) := by rw [hnext]; unfold iv; rw [BitVec.toNat_ofNat]; omega
      have NX := hid hnext
      have IV := hid hiv
      have IV1 := hid hiv1
      have CN := candL_next xs k
      rw [← HS.out] at CN
      clear hsk hiv hnext hiv1 hown
      cases hq : minS xs s with
      | true =>
        rw [hq, if_pos rfl] at CN
        have CN2 := hid CN
        have HQ := hid hq
        clear CN hq
        go_wp2_with fail
        refine (C3.out _).mono ?_
        rintro e w2 ⟨rfl, rfl⟩
        go_wp2_with fail
        refine (C2.out s _ hnx).mono ?_
        rw [HQ.out]
        rintro e w2 ⟨rfl, rfl⟩
        go_wp2_with (at_builtin; refine wpList_push rfl _ _ 45 rfl w.heap.size 33 (.int .u32 0) 4 undSets infoSet rfl (by decide) enc (fun _ => rfl) _ (candL xs k) rfl (HO.out.alloc _) ⟨wo.heap.size, 0, none⟩ s rfl cell_new (by omega) (by simp; omega) ?_)
        intro v' w4 hown' hgrow
        have hb4 := below_push hnx hsz HO.out hgrow
        have OW : w4.ownsRow w.heap.size 33 1 v' (candL xs (k + 1)).length ((candL xs (k + 1)).map enc) := by rw [CN2.out]; simpa using hown'
        clear hgrow hown' hnx hle
        go_wp2_with fail
        go_roundw
        case rel => exact ⟨k + 1, s + 1#32, by omega, rfl, NX, OW, hb4⟩
        case measure => simp only [intOf]; rw [IV.out, IV1.out]; omega
      | false =>
        rw [hq, if_neg (by simp), List.append_nil] at CN
        have CN2 := hid CN
        have HQ := hid hq
        clear CN hq
        go_wp2_with fail
        refine (C3.out _).mono ?_
        rintro e w2 ⟨rfl, rfl⟩
        go_wp2_with fail
        refine (C2.out s _ hnx).mono ?_
        rw [HQ.out]
        rintro e w2 ⟨rfl, rfl⟩
        go_wp2_with fail
        go_roundw
        case rel => exact ⟨k + 1, s + 1#32, by omega, rfl, NX, by rw [CN2.out]; exact HO.out, hnx⟩
        case measure => simp only [intOf]; rw [IV.out, IV1.out]; omega
    · obtain rfl : k = N := by omega
      have hgt : ¬ iv s ≤ iv fu := by rw [hiv, FU.out]; omega
      have C := hid (ORD.out u7 wo (RdE.of_owns hown (by omega)))
      have HB := hid hnx
      clear hown hnx hsk hiv
      go_wp2_with fail
      refine (C3.out _).mono ?_
      rintro e w2 ⟨rfl, rfl⟩
      go_wp2_with fail
      refine C.out.mono ?_
      rintro e w5 ⟨v5, ys, rfl, hown5, hord, hlen, hb5⟩
      have hys := FIN.out ys hord
      have O5 := hid (own_mono hown5 hsz)
      have B5 := hid (HB.out.trans (hb5.mono hsz))
      have YS := hid hys
      clear hown5 hb5 hys hord
      go_wp2_with fail
      go_ret2
      rw [← YS.out]
      exact ⟨_, rfl, O5.out, by omega, B5.out⟩

theorem refAll_err (n : Int) (xs : List S) (v : Value) (w : World) (hv : RdE enc w v xs) (hval : validS n xs ≠ 0) :
    Calls Tryz.prog 50 #[.int .i64 n, v] w fun e w' => e = .returned (.tuple #[.slice none 0 0, .int .i64 (validS n xs)]) ∧ Below w.heap.size w w' := by
  have C1 := hid (refValid_any n xs v w hv)
  have hne : (validS n xs != 0) = true := by simpa using hval
  generalize validS n xs = r at *
  clear hval hv
  go_enter Tryz.func50, Tryz.ntmps50
  go_wp2_with fail
  refine C1.out.mono ?_
  rintro e w1 ⟨rfl, hb1⟩
  have B1 := hid hb1
  clear hb1 C1
  go_wp2_with fail
  go_ret2
  exact ⟨rfl, B1.out⟩

end Go.Proofs.YtkbegpnchamgkaaGreatDoor


/- The walks of the two Smallest, of Witness, of Dual, of few; All of both in one statement each. -/
namespace Go.Proofs.YtkbegpnchamgkaaGreatDoor
open Go.RowKit

/-- What All returns, whatever the input: with the error there is no set. -/
def resS (n : Int) (xs : List S) : List S := if validS n xs = 0 then allS xs else []
theorem refAllW (n : Int) (xs : List S) (v : Value) (w : World) (hv : RdE enc w v xs) :
    Calls Tryz.prog 50 #[.int .i64 n, v] w fun e w' => ∃ v', e = .returned (.tuple #[v', .int .i64 (validS n xs)]) ∧ w'.ownsRow w.heap.size 33 1 v' (resS n xs).length ((resS n xs).map enc) ∧ (resS n xs).length ≤ 65536 ∧ Below w.heap.size w w' := by
  unfold resS
  by_cases h : validS n xs = 0
  · rw [if_pos h, h]; exact refAll_any n xs v w hv h
  · rw [if_neg h]
    exact (refAll_err n xs v w hv h).mono fun e w' ⟨he, hb⟩ => ⟨_, he, World.ownsRow_nil _ _ _ _, by simp, hb⟩

/-- What Smallest returns. -/
def smallS (n : Int) (xs : List S) : S := (resS n xs).headD 0#32
def smallE (n : Int) (xs : List S) : Int := if validS n xs = 0 then (if (resS n xs).isEmpty then 12 else 0) else validS n xs



/-- Witness of the reference. -/
def inL (l : List S) (s : S) : Bool := l.any (· == s)
theorem inL_iff {l : List S} {s : S} : inL l s = true ↔ s ∈ l := by
  unfold inL; rw [List.any_eq_true]; simp
def witS (n : Int) (xs sets : List S) (s : S) : Bool := ((s &&& ~~~ fullN (min n.toNat 32) == 0#32) && minS xs s) != inL sets s
theorem inW (xs : List S) (s : S) (v : Value) (w : World) (hv : RdE enc w v xs) :
    Calls Tryz.prog 52 #[v, enc s] w fun e w' => e = .returned (.bool (inL xs s)) ∧ w = w' := in_any xs s v w hv

end Go.Proofs.YtkbegpnchamgkaaGreatDoor


/- The walk of transversal.Dual, and of few. -/
namespace Go.Proofs.YtkbegpnchamgkaaGreatDoor
open Go.RowKit

theorem undSet : Tryz.prog.underlying 33 = some (.int .u32) := by kernel_rfl
theorem undBool : Tryz.prog.underlying 4 = some .bool := by kernel_rfl
theorem zeroB (w : World) : (zeroValue 4).run Tryz.prog w = .ok (.bool false) w := by kernel_rfl

/-- What Dual returns: nothing, yes, or a set that is in one of the two lists alone. -/
def DualP (n : Int) (xs sets : List S) (d : S) (ok : Bool) : Prop :=
  if validS n xs ≠ 0 ∨ 20000 < sets.length then d = 0#32 ∧ ok = false
  else (ok = true ∧ d = 0#32 ∧ ∀ s, s ∈ sets ↔ s ∈ allS xs) ∨ (ok = false ∧ ¬ (d ∈ allS xs ↔ d ∈ sets))
def DualE (n : Int) (xs sets : List S) (e : Ending) : Prop := ∃ d ok, e = .returned (.tuple #[enc d, .bool ok]) ∧ DualP n xs sets d ok
theorem inL_next {l : List S} {k : Nat} {x : S} (h : l[k]? = some x) (s : S) : inL (l.take (k + 1)) s = (inL (l.take k) s || (x == s)) := by
  unfold inL; rw [take_next h, List.any_append]; simp
def rem (sets l : List S) (s : S) : Bool := inL sets s && !inL l s



end Go.Proofs.YtkbegpnchamgkaaGreatDoor


/- The walk of awake: the chapter's examples hold. -/
namespace Go.Proofs.YtkbegpnchamgkaaGreatDoor
open Go.RowKit

/-- A list of sets that the text writes out. -/
theorem rd_lit (w : World) (l : List S) (t : TypeId) (h : l.length ≤ 1000) : RdE enc (w.alloc (.cells (l.map enc).toArray t)) (.slice (some ⟨w.heap.size, 0, none⟩) l.length l.length) l := by
  have := World.ownsRow_lit (size := 1) (e := t) (base := w.heap.size) w (l.map enc).toArray l.length (Nat.le_refl _) (by unfold maxLen; omega) (by simp)
  exact RdE.of_owns (by simpa using this) (by omega)

/-- What All gives can be checked set by set: n attributes, 2 ^ n sets. -/
theorem allS_check (xs ys : List S) (n N : Nat) (hN : 2 ^ n = N) (hv : ∀ x ∈ xs, ∀ i, i < 32 → n ≤ i → x.getLsbD i = false) (hy : ys.Pairwise bef)
    (hc : ∀ k, k < N → (minS xs (BitVec.ofNat 32 k) = true ↔ BitVec.ofNat 32 k ∈ ys)) (hb : ∀ y ∈ ys, y.toNat < N) : allS xs = ys := by
  subst hN
  refine (allS_ord xs).uniq (ys := ys) (q := fun s => s ∈ ys) ⟨hy, fun _ => Iff.rfl⟩ fun s => ?_
  have hs : BitVec.ofNat 32 s.toNat = s := by apply BitVec.eq_of_toNat_eq; simp
  constructor
  · intro h
    have := lt_of_bits (min_within h hv)
    have h2 := (hc s.toNat this).1 (by rw [hs]; exact h)
    rwa [hs] at h2
  · intro h
    have h2 := (hc s.toNat (hb s h)).2 (by rw [hs]; exact h)
    rwa [hs] at h2
theorem isMin_least (xs : List S) (s : S) : isMin xs s ↔ s ∈ xs.filter (least xs) := by
  unfold isMin; rw [List.mem_filter, least_iff]
theorem redS_check (xs ys : List S) (hy : ys.Pairwise bef) (hc : ∀ s, s ∈ xs.filter (least xs) ↔ s ∈ ys) : redS xs = ys :=
  (redS_ord xs).uniq (ys := ys) (q := fun s => s ∈ ys) ⟨hy, fun _ => Iff.rfl⟩ fun s => (isMin_least xs s).trans (hc s)

theorem iv_five : (iv 5#32 == 5) = true := by decide
theorem iv_ten : (iv 10#32 == 10) = true := by decide
theorem ex_valid : validS 4 [3#32, 6#32, 12#32] = 0 := by decide +kernel
theorem ex_all : allS [3#32, 6#32, 12#32] = [5#32, 6#32, 10#32] := by
  have h : ∀ k, k < 16 → (minS [3#32, 6#32, 12#32] (BitVec.ofNat 32 k) = true ↔ BitVec.ofNat 32 k ∈ [5#32, 6#32, 10#32]) := by decide +kernel
  have hv : ∀ x ∈ [3#32, 6#32, 12#32], ∀ i, i < 32 → 4 ≤ i → x.getLsbD i = false := fun x hx i hi h4 => (valid_bits ex_valid).2.2.2 x hx i hi h4
  have hp : [5#32, 6#32, 10#32].Pairwise bef := by decide +kernel
  have hb : ∀ y ∈ [5#32, 6#32, 10#32], y.toNat < 16 := by
    intro y hy
    simp only [List.mem_cons, List.not_mem_nil, or_false] at hy
    rcases hy with rfl | rfl | rfl <;> decide
  exact allS_check [3#32, 6#32, 12#32] [5#32, 6#32, 10#32] 4 16 (by decide) hv hp h hb
theorem ex_red : redS [7#32, 3#32, 12#32, 3#32] = [3#32, 12#32] := by
  refine redS_check _ _ (by decide +kernel) fun s => ?_
  have : [7#32, 3#32, 12#32, 3#32].filter (least [7#32, 3#32, 12#32, 3#32]) = [3#32, 12#32, 3#32] := by decide +kernel
  rw [this]
  simp only [List.mem_cons, List.not_mem_nil, or_false]
  constructor
  · rintro (h | h | h) <;> simp [h]
  · rintro (h | h) <;> simp [h]
theorem ex_res : resS 4 [3#32, 6#32, 12#32] = [5#32, 6#32, 10#32] := by unfold resS; rw [if_pos ex_valid, ex_all]
theorem ex_small : smallS 4 [3#32, 6#32, 12#32] = 5#32 := by unfold smallS; rw [ex_res]; rfl
theorem ex_smallE : smallE 4 [3#32, 6#32, 12#32] = 0 := by unfold smallE; rw [if_pos ex_valid, ex_res]; rfl
theorem ex_dual {d : S} {ok : Bool} (h : DualP 4 [3#32, 6#32, 12#32] [6#32, 5#32] d ok) : d = 10#32 ∧ ok = false := by
  unfold DualP at h
  rw [ex_valid, ex_all] at h
  rw [if_neg (by simp)] at h
  rcases h with ⟨_, _, h⟩ | ⟨rfl, h⟩
  · exact absurd ((h 10#32).2 (by decide)) (by decide)
  · refine ⟨?_, rfl⟩
    apply Classical.byContradiction
    intro hd
    apply h
    simp only [List.mem_cons, List.not_mem_nil, or_false]
    constructor
    · rintro (h | h | h)
      · exact .inr h
      · exact .inl h
      · exact absurd h hd
    · rintro (h | h)
      · exact .inr (.inl h)
      · exact .inl h

/-- Same, of a list that is read and one that the text writes out. -/
theorem same_lit (l : List S) (v : Value) (W : World) (o : Obj) (ho : o = .cells (l.map enc).toArray 33) (m : Nat) (hm : m = l.length) (hl : l.length ≤ 1000) (h : RdE enc W v l) :
    Calls Tryz.prog 51 #[v, .slice (some ⟨W.heap.size, 0, none⟩) m m] (W.alloc o) fun e w' => e = .returned (.bool true) ∧ Below W.heap.size W w' := by
  subst ho hm
  refine (same_any l l v _ _ (h.below (below_alloc _ _)) (rd_lit W l _ hl)).mono fun e w' ⟨he, q, hq⟩ => ⟨by rw [he]; simp, ?_⟩
  subst hq
  exact (below_alloc _ _).trans (below_drewN _ _ _)


end Go.Proofs.YtkbegpnchamgkaaGreatDoor

