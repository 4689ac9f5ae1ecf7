/- The walks of drossref02's Minimal and Maximal. -/
import Derived.Test.YtkehelplmipenaaRefOrd
import Derived.Test.YtkehelplmipenaaAgrL
import Derived.Test.YtkehelplmipenaaSubW
namespace Go.Proofs.Ytkehelplmipenaa
open Go.RowKit

theorem Minimal_rel (a b : S) : decide (sub b a) = downR a b := by unfold downR; rw [Bool.eq_iff_iff, decide_eq_true_iff, beq_iff_eq, andNot_zero_iff]
theorem Maximal_rel (a b : S) : decide (sub a b) = upR a b := by unfold upR; rw [Bool.eq_iff_iff, decide_eq_true_iff, beq_iff_eq, andNot_zero_iff]

set_option maxHeartbeats 1600000 in
theorem ref2Minimal_any (xs : List S) (v : Value) (w : World) (hv : RdE enc w v xs) (h44 : xs.length < 17592186044416) :
    Calls Try.prog 49 #[v] w fun e w' => ∃ v', e = .returned v' ∧ w'.ownsRow w.heap.size 33 1 v' (keepS downR xs).length ((keepS downR xs).map enc) ∧ Below w.heap.size w w' := by
  have C1 := hid (refOrder_any xs v w hv h44)
  have SU := hid (fun (a b : S) (W : World) => sub_any a b W)
  have SR := hid (fun (a b : S) => Minimal_rel a b)
  obtain ⟨ao, cap, rfl, -⟩ := hv
  go_enter Try.func49, Try.ntmps49
  go_wp2_with fail
  refine C1.out.mono ?_
  rintro e w1 ⟨v1, ys, rfl, hown1, hord, hyl, hb1⟩
  have hys := ordS_of hord (fun _ => Iff.rfl)
  have ND := hid (ord_nodup hord)
  have KS := hid (show keepS downR xs = ys.filter (fun a => !ys.any fun b => a != b && downR a b) by unfold keepS; rw [← hys])
  have R1 := hid (RdE.of_owns hown1 (by omega))
  obtain ⟨yo, ycap, rfl, -, hyc⟩ := R1.out.split
  have YC := hid hyc
  have B1 := hid hb1
  have hs1 := hb1.size
  have hylt : ys.length < 17592186044416 := by omega
  obtain ⟨P, hP⟩ : ∃ P : S → Bool, (fun a => !ys.any fun b => a != b && downR a b) = P := ⟨_, rfl⟩
  have OE := hid (fun (i : Nat) (a : S) (h : ys[i]? = some a) => show okB downR ys i ys.length = P a by rw [okB_end downR ND.out h, ← hP])
  have KT := hid (fun (k : Nat) (a : S) (h : ys[k]? = some a) => show (ys.take (k + 1)).filter P = (ys.take k).filter P ++ (if P a = true then [a] else []) by rw [← hP]; exact keep_take downR h)
  rw [hP] at KS
  clear hown1 hord hb1 hys hyc hP C1
  go_wp2_with fail
  go_loopw [3, 5] (fun u i wr => ∃ k : Nat, k ≤ ys.length ∧ i = .int .i64 k ∧ wr.ownsRow w1.heap.size 33 1 u ((ys.take k).filter P).length (((ys.take k).filter P).map enc) ∧ Below w1.heap.size w1 wr) (fun _ i _ => ys.length - (intOf i).toNat)
  case atStart => exact ⟨0, Nat.zero_le _, rfl, World.ownsRow_nil _ _ _ _, Below.refl _ _⟩
  case round =>
    obtain ⟨k, hk, rfl, hown, hnx⟩ := hrel
    have hsz := hnx.size
    by_cases hlt : k < ys.length
    · obtain ⟨a, ha⟩ := get_some hlt
      obtain ⟨b0, off, rfl, hd⟩ := YC.out k a ha
      have KT1 := hid (KT.out k a ha)
      have OE1 := hid (OE.out k a ha)
      have hll : ((ys.take k).filter P).length ≤ k := Nat.le_trans (List.length_filter_le _ _) (by rw [List.length_take]; omega)
      have ON := hid (fun (m : Nat) (b : S) (h : ys[m]? = some b) => okB_next downR ha h)
      have A1 := hid hd
      have i0 : (0 : Int) ≤ (k : Int) := by omega
      obtain ⟨wo, rfl⟩ : ∃ wo : World, wo = wr := ⟨_, rfl⟩
      have HO := hid hown
      have HN := hid hnx
      clear hd ha hown hnx
      generalize (ys.take k).filter P = L at *
      go_wp2_with fail
      go_loopw [6, 7] (fun ok j wr => ∃ m : Nat, m ≤ ys.length ∧ j = .int .i64 m ∧ ok = .bool (okB downR ys k m) ∧ Below wo.heap.size wo wr) (fun _ j _ => ys.length - (intOf j).toNat)
      case atStart => exact ⟨0, Nat.zero_le _, rfl, rfl, Below.refl _ _⟩
      case round =>
        obtain ⟨m, hm, rfl, rfl, hnx⟩ := hrel
        have NX := hid hnx
        have BX := hid (HN.out.trans (hnx.mono hsz))
        have j0 : (0 : Int) ≤ (m : Int) := by omega
        clear hnx
        by_cases hlt2 : m < ys.length
        · obtain ⟨b, hb⟩ := get_some hlt2
          obtain ⟨b1, off1, hbb, hd1⟩ := YC.out m b hb
          cases hbb
          have ea : wr.cell? ⟨b0, off + k, none⟩ = some (.int .u32 (iv a)) := A1.out wr BX.out
          have eb : wr.cell? ⟨b0, off + m, none⟩ = some (.int .u32 (iv b)) := hd1 wr BX.out
          have ON1 := hid (ON.out m b hb)
          have SU1 := hid (fun (W : World) => SU.out b a W)
          have SR1 := SR.out a b
          simp only [enc_eq] at SU1
          rw [SR1] at SU1
          clear hd1 hb SR1
          generalize downR a b = rr at *
          cases hq : okB downR ys k m with
          | false =>
            rw [hq, Bool.false_and] at ON1
            clear hq
            go_wp2_with fail
            go_quiet (fail)
            go_wp2_with fail
            go_roundw
            case rel => exact ⟨m + 1, by omega, by go_num, by rw [ON1.out], below_drewN' NX.out _⟩
            case measure => simp [intOf]; omega
          | true =>
            rw [hq, Bool.true_and] at ON1
            clear hq
            by_cases hmk : m = k
            · have hmk2 : ((m : Int) == (k : Int)) = true := by simp [hmk]
              rw [decide_eq_true hmk, Bool.true_or] at ON1
              clear hmk
              go_wp2_with fail
              go_quiet (fail)
              go_wp2_with fail
              go_roundw
              case rel => exact ⟨m + 1, by omega, by go_num, by rw [ON1.out], below_drewN' NX.out _⟩
              case measure => simp [intOf]; omega
            · have hmk2 : ((m : Int) == (k : Int)) = false := by rw [beq_eq_false_iff_ne]; omega
              rw [decide_eq_false hmk, Bool.false_or] at ON1
              clear hmk
              cases rr with
              | false =>
                go_wp2_with fail
                go_quiet ((go_at_call 67; exact Calls.quiet_of_same ((SU1.out _).mono (fun _ _ h => ⟨h.1, h.2.symm⟩))))
                go_wp2_with fail
                go_roundw
                case rel => exact ⟨m + 1, by omega, by go_num, by rw [ON1.out]; rfl, below_drewN' NX.out _⟩
                case measure => simp [intOf]; omega
              | true =>
                go_wp2_with fail
                go_quiet ((go_at_call 67; exact Calls.quiet_of_same ((SU1.out _).mono (fun _ _ h => ⟨h.1, h.2.symm⟩))))
                go_wp2_with fail
                go_roundw
                case rel => exact ⟨m + 1, by omega, by go_num, by rw [ON1.out]; rfl, below_drewN' NX.out _⟩
                case measure => simp [intOf]; omega
        · have hmm : m = ys.length := by omega
          have OE2 := hid (show okB downR ys k m = P a by rw [hmm]; exact OE1.out)
          have ea : wr.cell? ⟨b0, off + k, none⟩ = some (.int .u32 (iv a)) := A1.out wr BX.out
          have hown := own_below HO.out NX.out
          have hnx := BX.out
          have hsz3 := hnx.size
          clear hmm
          cases hq : okB downR ys k m with
          | false =>
            rw [hq] at OE2
            have KT2 := hid (show (ys.take (k + 1)).filter P = L by rw [KT1.out, if_neg (by rw [← OE2.out]; simp)]; simp)
            have HO2 := hid hown
            have HN2 := hid hnx
            clear hq hown hnx
            go_wp2_with fail
            go_roundw
            case rel => exact ⟨k + 1, by omega, by go_num, by rw [KT2.out]; exact HO2.out, HN2.out⟩
            case measure => simp [intOf]; omega
          | true =>
            rw [hq] at OE2
            have KT2 := hid (show (ys.take (k + 1)).filter P = L ++ [a] by rw [KT1.out, if_pos OE2.out.symm])
            clear hq
            go_wp2_with (at_builtin; refine wpList_push rfl _ _ 37 rfl w1.heap.size 33 (.int .u32 0) 4 undSets infoSet rfl (by decide) enc (fun _ => rfl) _ L rfl (hown.alloc _) ⟨wr.heap.size, 0, none⟩ a rfl cell_new (by omega) (by simp; omega) ?_)
            intro v' w4 hown' hgrow
            have hb4 := hid (below_push hnx hsz3 hown hgrow)
            have HO4 := hid hown'
            clear hgrow hown hnx hown' ea
            go_wp2_with fail
            go_roundw
            case rel => exact ⟨k + 1, by omega, by go_num, by rw [KT2.out]; simpa using HO4.out, hb4.out⟩
            case measure => simp [intOf]; omega
    · rw [take_all hlt, ← KS.out] at hown
      have HO := hid (own_mono hown hs1)
      have HN := hid (B1.out.trans (hnx.mono hs1))
      clear hown hnx
      go_wp2_with fail
      go_ret
      exact ⟨_, rfl, HO.out, HN.out⟩

set_option maxHeartbeats 1600000 in
theorem ref2Maximal_any (xs : List S) (v : Value) (w : World) (hv : RdE enc w v xs) (h44 : xs.length < 17592186044416) :
    Calls Try.prog 46 #[v] w fun e w' => ∃ v', e = .returned v' ∧ w'.ownsRow w.heap.size 33 1 v' (keepS upR xs).length ((keepS upR xs).map enc) ∧ Below w.heap.size w w' := by
  have C1 := hid (refOrder_any xs v w hv h44)
  have SU := hid (fun (a b : S) (W : World) => sub_any a b W)
  have SR := hid (fun (a b : S) => Maximal_rel a b)
  obtain ⟨ao, cap, rfl, -⟩ := hv
  go_enter Try.func46, Try.ntmps46
  go_wp2_with fail
  refine C1.out.mono ?_
  rintro e w1 ⟨v1, ys, rfl, hown1, hord, hyl, hb1⟩
  have hys := ordS_of hord (fun _ => Iff.rfl)
  have ND := hid (ord_nodup hord)
  have KS := hid (show keepS upR xs = ys.filter (fun a => !ys.any fun b => a != b && upR a b) by unfold keepS; rw [← hys])
  have R1 := hid (RdE.of_owns hown1 (by omega))
  obtain ⟨yo, ycap, rfl, -, hyc⟩ := R1.out.split
  have YC := hid hyc
  have B1 := hid hb1
  have hs1 := hb1.size
  have hylt : ys.length < 17592186044416 := by omega
  obtain ⟨P, hP⟩ : ∃ P : S → Bool, (fun a => !ys.any fun b => a != b && upR a b) = P := ⟨_, rfl⟩
  have OE := hid (fun (i : Nat) (a : S) (h : ys[i]? = some a) => show okB upR ys i ys.length = P a by rw [okB_end upR ND.out h, ← hP])
  have KT := hid (fun (k : Nat) (a : S) (h : ys[k]? = some a) => show (ys.take (k + 1)).filter P = (ys.take k).filter P ++ (if P a = true then [a] else []) by rw [← hP]; exact keep_take upR h)
  rw [hP] at KS
  clear hown1 hord hb1 hys hyc hP C1
  go_wp2_with fail
  go_loopw [3, 5] (fun u i wr => ∃ k : Nat, k ≤ ys.length ∧ i = .int .i64 k ∧ wr.ownsRow w1.heap.size 33 1 u ((ys.take k).filter P).length (((ys.take k).filter P).map enc) ∧ Below w1.heap.size w1 wr) (fun _ i _ => ys.length - (intOf i).toNat)
  case atStart => exact ⟨0, Nat.zero_le _, rfl, World.ownsRow_nil _ _ _ _, Below.refl _ _⟩
  case round =>
    obtain ⟨k, hk, rfl, hown, hnx⟩ := hrel
    have hsz := hnx.size
    by_cases hlt : k < ys.length
    · obtain ⟨a, ha⟩ := get_some hlt
      obtain ⟨b0, off, rfl, hd⟩ := YC.out k a ha
      have KT1 := hid (KT.out k a ha)
      have OE1 := hid (OE.out k a ha)
      have hll : ((ys.take k).filter P).length ≤ k := Nat.le_trans (List.length_filter_le _ _) (by rw [List.length_take]; omega)
      have ON := hid (fun (m : Nat) (b : S) (h : ys[m]? = some b) => okB_next upR ha h)
      have A1 := hid hd
      have i0 : (0 : Int) ≤ (k : Int) := by omega
      obtain ⟨wo, rfl⟩ : ∃ wo : World, wo = wr := ⟨_, rfl⟩
      have HO := hid hown
      have HN := hid hnx
      clear hd ha hown hnx
      generalize (ys.take k).filter P = L at *
      go_wp2_with fail
      go_loopw [6, 7] (fun ok j wr => ∃ m : Nat, m ≤ ys.length ∧ j = .int .i64 m ∧ ok = .bool (okB upR ys k m) ∧ Below wo.heap.size wo wr) (fun _ j _ => ys.length - (intOf j).toNat)
      case atStart => exact ⟨0, Nat.zero_le _, rfl, rfl, Below.refl _ _⟩
      case round =>
        obtain ⟨m, hm, rfl, rfl, hnx⟩ := hrel
        have NX := hid hnx
        have BX := hid (HN.out.trans (hnx.mono hsz))
        have j0 : (0 : Int) ≤ (m : Int) := by omega
        clear hnx
        by_cases hlt2 : m < ys.length
        · obtain ⟨b, hb⟩ := get_some hlt2
          obtain ⟨b1, off1, hbb, hd1⟩ := YC.out m b hb
          cases hbb
          have ea : wr.cell? ⟨b0, off + k, none⟩ = some (.int .u32 (iv a)) := A1.out wr BX.out
          have eb : wr.cell? ⟨b0, off + m, none⟩ = some (.int .u32 (iv b)) := hd1 wr BX.out
          have ON1 := hid (ON.out m b hb)
          have SU1 := hid (fun (W : World) => SU.out a b W)
          have SR1 := SR.out a b
          simp only [enc_eq] at SU1
          rw [SR1] at SU1
          clear hd1 hb SR1
          generalize upR a b = rr at *
          cases hq : okB upR ys k m with
          | false =>
            rw [hq, Bool.false_and] at ON1
            clear hq
            go_wp2_with fail
            go_quiet (fail)
            go_wp2_with fail
            go_roundw
            case rel => exact ⟨m + 1, by omega, by go_num, by rw [ON1.out], below_drewN' NX.out _⟩
            case measure => simp [intOf]; omega
          | true =>
            rw [hq, Bool.true_and] at ON1
            clear hq
            by_cases hmk : m = k
            · have hmk2 : ((m : Int) == (k : Int)) = true := by simp [hmk]
              rw [decide_eq_true hmk, Bool.true_or] at ON1
              clear hmk
              go_wp2_with fail
              go_quiet (fail)
              go_wp2_with fail
              go_roundw
              case rel => exact ⟨m + 1, by omega, by go_num, by rw [ON1.out], below_drewN' NX.out _⟩
              case measure => simp [intOf]; omega
            · have hmk2 : ((m : Int) == (k : Int)) = false := by rw [beq_eq_false_iff_ne]; omega
              rw [decide_eq_false hmk, Bool.false_or] at ON1
              clear hmk
              cases rr with
              | false =>
                go_wp2_with fail
                go_quiet ((go_at_call 67; exact Calls.quiet_of_same ((SU1.out _).mono (fun _ _ h => ⟨h.1, h.2.symm⟩))))
                go_wp2_with fail
                go_roundw
                case rel => exact ⟨m + 1, by omega, by go_num, by rw [ON1.out]; rfl, below_drewN' NX.out _⟩
                case measure => simp [intOf]; omega
              | true =>
                go_wp2_with fail
                go_quiet ((go_at_call 67; exact Calls.quiet_of_same ((SU1.out _).mono (fun _ _ h => ⟨h.1, h.2.symm⟩))))
                go_wp2_with fail
                go_roundw
                case rel => exact ⟨m + 1, by omega, by go_num, by rw [ON1.out]; rfl, below_drewN' NX.out _⟩
                case measure => simp [intOf]; omega
        · have hmm : m = ys.length := by omega
          have OE2 := hid (show okB upR ys k m = P a by rw [hmm]; exact OE1.out)
          have ea : wr.cell? ⟨b0, off + k, none⟩ = some (.int .u32 (iv a)) := A1.out wr BX.out
          have hown := own_below HO.out NX.out
          have hnx := BX.out
          have hsz3 := hnx.size
          clear hmm
          cases hq : okB upR ys k m with
          | false =>
            rw [hq] at OE2
            have KT2 := hid (show (ys.take (k + 1)).filter P = L by rw [KT1.out, if_neg (by rw [← OE2.out]; simp)]; simp)
            have HO2 := hid hown
            have HN2 := hid hnx
            clear hq hown hnx
            go_wp2_with fail
            go_roundw
            case rel => exact ⟨k + 1, by omega, by go_num, by rw [KT2.out]; exact HO2.out, HN2.out⟩
            case measure => simp [intOf]; omega
          | true =>
            rw [hq] at OE2
            have KT2 := hid (show (ys.take (k + 1)).filter P = L ++ [a] by rw [KT1.out, if_pos OE2.out.symm])
            clear hq
            go_wp2_with (at_builtin; refine wpList_push rfl _ _ 37 rfl w1.heap.size 33 (.int .u32 0) 4 undSets infoSet rfl (by decide) enc (fun _ => rfl) _ L rfl (hown.alloc _) ⟨wr.heap.size, 0, none⟩ a rfl cell_new (by omega) (by simp; omega) ?_)
            intro v' w4 hown' hgrow
            have hb4 := hid (below_push hnx hsz3 hown hgrow)
            have HO4 := hid hown'
            clear hgrow hown hnx hown' ea
            go_wp2_with fail
            go_roundw
            case rel => exact ⟨k + 1, by omega, by go_num, by rw [KT2.out]; simpa using HO4.out, hb4.out⟩
            case measure => simp [intOf]; omega
    · rw [take_all hlt, ← KS.out] at hown
      have HO := hid (own_mono hown hs1)
      have HN := hid (B1.out.trans (hnx.mono hs1))
      clear hown hnx
      go_wp2_with fail
      go_ret
      exact ⟨_, rfl, HO.out, HN.out⟩

end Go.Proofs.Ytkehelplmipenaa
