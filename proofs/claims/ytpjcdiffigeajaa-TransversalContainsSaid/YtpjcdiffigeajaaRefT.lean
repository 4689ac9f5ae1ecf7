/- The walks of the reference's layer 7: Valid, All, Reduce, Smallest, Witness. -/
import Derived.Test.YtpjcdiffigeajaaRefOrd
import Derived.Test.YtpjcdiffigeajaaMin
import Derived.Test.YtpjcdiffigeajaaAll
namespace Go.Proofs.Ytpjcdiffigeajaa
open Go.RowKit

theorem fullN_get (k i : Nat) (hi : i < 32) : (fullN k).getLsbD i = decide (i < k) := by
  induction k with
  | zero => simp [fullN]
  | succ k ih =>
    unfold fullN
    rw [BitVec.getLsbD_or, ih, show (1#32 <<< k) = bit k from rfl, bit_get k i hi]
    by_cases h1 : i < k
    · simp [h1]; omega
    · by_cases h2 : i = k
      · subst h2; simp
      · simp [h1, h2]; omega
theorem sub_full {x : S} {n : Nat} : sub x (fullN n) ↔ x >>> n = 0#32 := by
  constructor
  · intro h
    apply bv_ext
    intro i hi
    rw [BitVec.getLsbD_ushiftRight, BitVec.getLsbD_zero]
    by_cases h2 : n + i < 32
    · cases hx : x.getLsbD (n + i) with
      | false => rfl
      | true =>
        have := h (n + i) h2 hx
        rw [fullN_get n _ h2, decide_eq_true_iff] at this; omega
    · exact BitVec.getLsbD_of_ge _ _ (by omega)
  · intro h i hi hx
    rw [fullN_get n i hi, decide_eq_true_iff]
    apply Classical.byContradiction
    intro hn2
    have := congrArg (fun x : S => x.getLsbD (i - n)) h
    simp only [BitVec.getLsbD_ushiftRight, BitVec.getLsbD_zero] at this
    rw [show n + (i - n) = i by omega, hx] at this; cases this
theorem over_full (x : S) (n : Nat) : (x &&& ~~~ fullN n != 0#32) = (x >>> n != 0#32) := by
  rw [Bool.eq_iff_iff, bne_iff_ne, bne_iff_ne, ne_eq, ne_eq, andNot_zero_iff, sub_full]

/-- Valid of the reference. -/
theorem refValid_any (n : Int) (xs : List S) (v : Value) (w : World) (hv : RdE enc w v xs) :
    Calls Try.prog 14 #[.int .i64 n, v] w fun e w' => e = .returned (.int .i64 (validS n xs)) ∧ Below w.heap.size w w' := by
  obtain ⟨ao, cap, rfl, -, -, h3⟩ := hv
  by_cases hn : n < 0 ∨ 16 < n
  · have e : validS n xs = 1 := by unfold validS; rw [if_pos hn]
    rw [e]; clear e
    go_enter Try.func14, Try.ntmps14
    rcases hn with hn | hn
    · go_wp2_with fail
      go_ret
      exact ⟨rfl, Below.refl _ _⟩
    · have h0 : ¬ n < 0 := by omega
      go_wp2_with fail
      go_ret
      exact ⟨rfl, Below.refl _ _⟩
  · have h0 : ¬ n < 0 := by omega
    have h1 : ¬ 16 < n := by omega
    by_cases hl : 200 < xs.length
    · have e : validS n xs = 3 := by unfold validS; rw [if_neg hn, if_pos hl]
      rw [e]; clear e hn
      go_enter Try.func14, Try.ntmps14
      go_wp2_with fail
      go_ret
      exact ⟨rfl, Below.refl _ _⟩
    · have e : validS n xs = if xs.any (fun x => x >>> n.toNat != 0#32) then 1 else 0 := by unfold validS; rw [if_neg hn, if_neg hl]
      have E := hid e
      have C := hid (full_any n)
      have hmin : min n.toNat 32 = n.toNat := by omega
      rw [hmin] at C
      have OV := hid (fun x => over_full x n.toNat)
      clear e hn hmin
      unfold enc at h3 C
      go_enter Try.func14, Try.ntmps14
      go_wp2_with fail
      go_loopw [5] (fun i wr => ∃ k : Nat, k ≤ xs.length ∧ i = .int .i64 k ∧ Below w.heap.size w wr ∧ Hid ((xs.take k).any (fun x => x >>> n.toNat != 0#32) = false)) (fun i _ => xs.length - (intOf i).toNat)
      case atStart => exact ⟨0, Nat.zero_le _, rfl, Below.refl _ _, hid rfl⟩
      case round =>
        obtain ⟨k, hk, rfl, hnx, H⟩ := hrel
        by_cases hlt : k < xs.length
        · obtain ⟨b, off, rfl, hb, hc⟩ := h3 (by omega)
          obtain ⟨x, hx⟩ := get_some hlt
          have e1 := (hnx.cell (p := ⟨b, off + k, none⟩) hb).trans (hc k x hx)
          have HN := hid hnx
          clear hnx
          clear hc h3
          have X := hid hx
          clear hx
          have ov := OV.out x
          generalize fullN n.toNat = fu at *
          cases hq : (x >>> n.toNat != 0#32) with
          | true =>
            rw [hq] at ov
            have HQ := hid hq
            clear hq
            go_wp2_with fail
            go_quiet ((go_at_call 26; exact Calls.quiet_of_same ((C.out _).mono (fun _ _ h => ⟨h.1, h.2.symm⟩))))
            go_wp2_with fail
            go_ret
            exact ⟨by rw [E.out, if_pos (any_hit (p := fun x : S => x >>> n.toNat != 0#32) X.out HQ.out)]; rfl, HN.out.trans (below_drewN _ _ _)⟩
          | false =>
            rw [hq] at ov
            have HQ := hid hq
            clear hq
            go_wp2_with fail
            go_quiet ((go_at_call 26; exact Calls.quiet_of_same ((C.out _).mono (fun _ _ h => ⟨h.1, h.2.symm⟩))))
            go_wp2_with fail
            go_roundw
            case rel => exact ⟨k + 1, by omega, by go_num, HN.out.trans (below_drewN _ _ _), hid (none_next (p := fun x : S => x >>> n.toNat != 0#32) X.out HQ.out H.out)⟩
            case measure => simp [intOf]; omega
        · go_wp2_with fail
          go_ret
          exact ⟨by rw [E.out, if_neg (by rw [any_end H.out hlt]; simp)]; rfl, hnx⟩

/-- The edges with no other one in them. -/
def least (xs : List S) (e : S) : Bool := !xs.any (fun f => f != e && (f &&& ~~~ e == 0#32))
def leastL (xs : List S) (k : Nat) : List S := (xs.take k).filter (least xs)
theorem leastL_next {xs : List S} {k : Nat} {x : S} (h : xs[k]? = some x) : leastL xs (k + 1) = leastL xs k ++ if least xs x then [x] else [] := by
  unfold leastL; rw [take_next h, List.filter_append]; cases hh : least xs x <;> simp [hh]
theorem leastL_length (xs : List S) (k : Nat) : (leastL xs k).length ≤ xs.length := by
  unfold leastL
  exact Nat.le_trans (List.length_filter_le _ _) (by rw [List.length_take]; exact Nat.min_le_right _ _)
theorem least_iff {xs : List S} {e : S} : least xs e = true ↔ ∀ f ∈ xs, sub f e → f = e := by
  unfold least
  rw [Bool.not_eq_true', List.any_eq_false]
  constructor
  · intro h f hf hs
    have := h f hf
    simp only [Bool.and_eq_true, bne_iff_ne, beq_iff_eq, andNot_zero_iff, not_and] at this
    apply Classical.byContradiction
    intro hne
    exact this hne hs
  · intro h f hf
    simp only [Bool.and_eq_true, bne_iff_ne, beq_iff_eq, andNot_zero_iff, not_and]
    exact fun hne hs => hne (h f hf hs)

set_option maxHeartbeats 800000 in
theorem refReduce_any (xs : List S) (v : Value) (w : World) (hv : RdE enc w v xs) (h44 : xs.length < 17592186044416) :
    Calls Try.prog 25 #[v] w fun e w' => ∃ v', e = .returned v' ∧ w'.ownsRow w.heap.size 28 1 v' (redS xs).length ((redS xs).map enc) ∧ Below w.heap.size w w' := by
  obtain ⟨ao, cap, rfl, -, -, h3⟩ := hv
  unfold enc at h3
  have ORD := hid (fun (v : Value) (w : World) (hv : RdE enc w v (leastL xs xs.length)) => refOrder_any (leastL xs xs.length) v w hv (by have := leastL_length xs xs.length; omega))
  go_enter Try.func25, Try.ntmps25
  go_wp2_with fail
  go_loopw [3, 4] (fun u i wr => ∃ k : Nat, k ≤ xs.length ∧ i = .int .i64 k ∧ wr.ownsRow w.heap.size 28 1 u (leastL xs k).length ((leastL xs k).map enc) ∧ Below w.heap.size w wr) (fun _ i _ => xs.length - (intOf i).toNat)
  case atStart => exact ⟨0, Nat.zero_le _, rfl, World.ownsRow_nil _ _ _ _, Below.refl _ _⟩
  case round =>
    obtain ⟨wo, rfl⟩ : ∃ wo : World, wo = wr := ⟨_, rfl⟩
    obtain ⟨k, hk, rfl, hown, hnx⟩ := hrel
    have hsz := hnx.size
    by_cases hlt : k < xs.length
    · obtain ⟨b, off, rfl, hb, hcc⟩ := h3 (by omega)
      obtain ⟨x, hx⟩ := get_some hlt
      have hcw : ∀ (i : Nat) (y : S), xs[i]? = some y → wo.cell? ⟨b, off + i, none⟩ = some (.int .u32 (iv y)) := fun i y hy => (hnx.cell (p := ⟨b, off + i, none⟩) hb).trans (hcc i y hy)
      have e0 := hcw k x hx
      have NX := hid (leastL_next hx)
      have hll := leastL_length xs k
      have X := hid hx
      have CW := hid hcw
      have HO := hid hown
      have HN := hid hnx
      clear hx hcc h3 hcw hown hnx
      go_wp2_with fail
      go_loopw [5, 6] (fun l i wr => ∃ (j q : Nat) (bb : Bool), j ≤ xs.length ∧ i = .int .i64 j ∧ l = .bool bb ∧ wr = wo.drewN q ∧ Hid (bb = !(xs.take j).any (fun f => f != x && (f &&& ~~~ x == 0#32)))) (fun _ i _ => xs.length - (intOf i).toNat)
      case atStart => exact ⟨0, 0, true, Nat.zero_le _, rfl, rfl, rfl, hid (by simp)⟩
      case round =>
        obtain ⟨j, q, bb, hj, rfl, rfl, rfl, HB⟩ := hrel
        by_cases hlj : j < xs.length
        · obtain ⟨y, hy⟩ := get_some hlj
          have e1 := CW.out j y hy
          have Y := hid hy
          clear hy
          by_cases hne : y = x
          · subst hne
            have t0 : (y != y) = false := by simp
            go_wp2_with fail
            go_quiet (fail)
            go_wp2_with fail
            go_roundw
            case rel =>
              refine ⟨j + 1, _, bb, by omega, by go_num, rfl, rfl, hid ?_⟩
              rw [take_next Y.out, List.any_append, HB.out]; simp
            case measure => simp [intOf]; omega
          · have t0 : (y != x) = true := by simpa using hne
            cases hq : (y &&& ~~~ x == 0#32) with
            | true =>
              go_wp2_with fail
              go_quiet (fail)
              go_wp2_with fail
              go_roundw
              case rel =>
                refine ⟨j + 1, _, false, by omega, by go_num, rfl, rfl, hid ?_⟩
                rw [take_next Y.out, List.any_append]
                have : [y].any (fun f => f != x && (f &&& ~~~ x == 0#32)) = true := by simp [hne]; simpa using hq
                rw [this]; simp
              case measure => simp [intOf]; omega
            | false =>
              go_wp2_with fail
              go_quiet (fail)
              go_wp2_with fail
              go_roundw
              case rel =>
                refine ⟨j + 1, _, bb, by omega, by go_num, rfl, rfl, hid ?_⟩
                rw [take_next Y.out, List.any_append, HB.out]
                have : [y].any (fun f => f != x && (f &&& ~~~ x == 0#32)) = false := by simp; intro _; simpa using hq
                rw [this]; simp
              case measure => simp [intOf]; omega
        · have hbb : bb = least xs x := by
            have := HB.out
            rwa [take_all hlj] at this
          cases hq : least xs x with
          | true =>
            rw [hq] at hbb
            subst hbb
            have NQ := NX.out
            rw [hq, if_pos rfl] at NQ
            have NQ2 := hid NQ
            have HO2 : (wo.drewN q).ownsRow w.heap.size 28 1 u3 (leastL xs k).length ((leastL xs k).map enc) := HO.out
            have HN2 : Below w.heap.size w (wo.drewN q) := HN.out.trans (below_drewN _ _ _)
            have e1 : (wo.drewN q).cell? ⟨b, off + k, none⟩ = some (.int .u32 (iv x)) := e0
            clear NQ hq e0
            generalize wo.drewN q = wi at *
            have hszi := HN2.size
            go_wp2_with (at_builtin; refine wpList_push rfl _ _ 22 rfl w.heap.size 28 (.int .u32 0) 4 undSets infoSet rfl (by decide) enc (fun _ => rfl) _ (leastL xs k) rfl (HO2.alloc _) ⟨wi.heap.size, 0, none⟩ x rfl cell_new (by omega) (by simp; omega) ?_)
            intro v' w4 hown' hgrow
            have hb4 := below_push HN2 hszi HO2 hgrow
            have OW : w4.ownsRow w.heap.size 28 1 v' (leastL xs (k + 1)).length ((leastL xs (k + 1)).map enc) := by rw [NQ2.out]; simpa using hown'
            clear hgrow hown' HO2 HN2
            go_wp2_with fail
            go_roundw
            case rel => exact ⟨k + 1, by omega, by go_num, OW, hb4⟩
            case measure => simp [intOf]; omega
          | false =>
            rw [hq] at hbb
            subst hbb
            have NQ := NX.out
            rw [hq, if_neg (by simp), List.append_nil] at NQ
            have NQ2 := hid NQ
            clear NQ hq
            go_wp2_with fail
            go_roundw
            case rel => exact ⟨k + 1, by omega, by go_num, by rw [NQ2.out]; exact HO.out, HN.out.trans (below_drewN _ _ _)⟩
            case measure => simp [intOf]; omega
    · obtain rfl : k = xs.length := by omega
      have hll := leastL_length xs xs.length
      have hrd := RdE.of_owns hown (by omega)
      have C := hid (ORD.out u3 wo hrd)
      have HB := hid hnx
      clear hown hnx hrd
      go_wp2_with fail
      refine C.out.mono ?_
      rintro e w5 ⟨v5, ys, rfl, hown5, hord, -, hb5⟩
      have O5 : w5.ownsRow w.heap.size 28 1 v5 (redS xs).length ((redS xs).map enc) := by
        have : ys = redS xs := hord.uniq (redS_ord xs) (fun s => by
          unfold leastL isMin
          rw [List.take_length, List.mem_filter, least_iff])
        rw [← this]; exact own_mono hown5 hsz
      have O6 := hid O5
      have B5 := hid (HB.out.trans (hb5.mono hsz))
      clear O5 hown5 hb5
      go_wp2_with fail
      go_ret
      exact ⟨_, rfl, O6.out, B5.out⟩

end Go.Proofs.Ytpjcdiffigeajaa
