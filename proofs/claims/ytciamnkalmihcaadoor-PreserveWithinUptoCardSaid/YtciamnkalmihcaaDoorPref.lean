/- The walks of the reference of chapter 22. -/
import Derived.Test.YtciamnkalmihcaaDoorPresM
import Derived.Test.YtciamnkalmihcaaDoorRefSubs
import Derived.Test.YtciamnkalmihcaaDoorRef10
import Derived.Test.YtciamnkalmihcaaDoorFdV
import Derived.Test.YtciamnkalmihcaaDoorListD
import Derived.Test.YtciamnkalmihcaaDoorPres4
namespace Go.Proofs.YtciamnkalmihcaaDoor
open Go.RowKit

theorem imp_bit {fs : List F} {y : S} {a : Nat} (ha : a < 32) : impS fs (y, bit a) = (closeS fs y).getLsbD a := by
  unfold impS; rw [Bool.eq_iff_iff, decide_eq_true_iff]; exact bit_subP ha
def lessB (fs : List F) (x : S) (a c : Nat) : Prop := x.getLsbD c = true ∧ (closeS fs (x &&& ~~~ (1#32 <<< c))).getLsbD a = true
theorem minB_all {fs : List F} {x : S} {a : Nat} (ha : a < 32) (h : ∀ c, c < 32 → ¬ lessB fs x a c) : minB fs x a = true := by
  unfold minB
  rw [List.all_eq_true]
  intro b hb
  rw [mem_memN] at hb
  rw [imp_bit ha]
  have := h b hb.1
  unfold lessB at this
  cases hq : (closeS fs (x &&& ~~~ bit b)).getLsbD a with
  | false => rfl
  | true => exact absurd ⟨hb.2, hq⟩ this
theorem minB_hit {fs : List F} {x : S} {a c : Nat} (ha : a < 32) (hc : c < 32) (h : lessB fs x a c) : minB fs x a = false := by
  unfold minB
  rw [List.all_eq_false]
  refine ⟨c, mem_memN.2 ⟨hc, h.1⟩, ?_⟩
  rw [imp_bit ha]
  have := h.2
  unfold bit
  rw [this]; simp

theorem refMinP_any (fs : List F) (x : S) (a : Nat) (ha : a < 32) (v : Value) (w : World) (hv : RdF w v fs) :
    Calls Tryd.prog 60 #[v, enc x, .int .i64 (a : Int)] w fun e w' => e = .returned (.bool ((closeS fs x).getLsbD a && minB fs x a)) ∧ Below w.heap.size w w' := by
  have C := hid (fun (s : S) (W : World) (h : Below w.heap.size w W) => refClose_any fs s v W (hv.below h))
  have C0 := hid (C.out x w (Below.refl _ _))
  have HA := hid (fun (s : S) (W : World) => has_any s a ha W)
  have HX := hid (fun (k : Nat) (hk : k < 32) (W : World) => has_any x k hk W)
  have MA := hid (fun (h : ∀ c, c < 32 → ¬ lessB fs x a c) => minB_all ha h)
  have MH := hid (fun (c : Nat) (hc : c < 32) (h : lessB fs x a c) => minB_hit ha hc h)
  have LB := hid (fun (c : Nat) => show lessB fs x a c ↔ x.getLsbD c = true ∧ (closeS fs (x &&& ~~~ (1#32 <<< c))).getLsbD a = true from Iff.rfl)
  obtain ⟨ao, cap, rfl, -⟩ := hv.split
  clear hv
  have a0 : (0 : Int) ≤ (a : Int) := by omega
  have go : ∀ r : Bool, (closeS fs x).getLsbD a = r → Calls Tryd.prog 60 #[.slice ao fs.length cap, enc x, .int .i64 (a : Int)] w fun e w' => e = .returned (.bool (r && minB fs x a)) ∧ Below w.heap.size w w' := by
    intro r hr
    have HA0 := hid (HA.out (closeS fs x))
    rw [hr] at HA0
    clear hr
    generalize closeS fs x = c at *
    simp only [enc_eq] at C C0 HA HX HA0 ⊢
    cases r with
    | false =>
      go_enter Tryd.func60, Tryd.ntmps60
      go_wp2_with fail
      refine C0.out.mono ?_
      rintro e w1 ⟨rfl, hb1⟩
      have B1 := hid hb1
      clear hb1
      go_wp2_with fail
      refine (HA0.out w1).mono ?_
      rintro e w2 ⟨rfl, rfl⟩
      go_wp2_with fail
      go_ret
      exact ⟨rfl, B1.out⟩
    | true =>
      have MA2 := hid (fun (h : ∀ c, c < 32 → ¬ lessB fs x a c) => show (true && minB fs x a) = true by rw [MA.out h]; rfl)
      have MH2 := hid (fun (c : Nat) (hc : c < 32) (h : lessB fs x a c) => show (true && minB fs x a) = false by rw [MH.out c hc h]; rfl)
      generalize (true && minB fs x a) = m at *
      clear MA MH
      go_enter Tryd.func60, Tryd.ntmps60
      go_wp2_with fail
      refine C0.out.mono ?_
      rintro e w1 ⟨rfl, hb1⟩
      have B1 := hid hb1
      clear hb1
      go_wp2_with fail
      refine (HA0.out w1).mono ?_
      rintro e w2 ⟨rfl, rfl⟩
      go_wp2_with fail
      go_loopw [7] (fun i wr => ∃ k : Nat, k ≤ 32 ∧ i = .int .i64 k ∧ Hid (∀ c, c < k → ¬ lessB fs x a c) ∧ Below w.heap.size w wr) (fun i _ => 32 - (intOf i).toNat)
      case atStart => exact ⟨0, by omega, rfl, hid (fun c hc => by omega), B1.out⟩
      case round =>
        obtain ⟨k, hk, rfl, H, hnx⟩ := hrel
        by_cases hlt : k < 32
        · have H1 := hid (HX.out k hlt wr)
          have LB1 := hid (LB.out k)
          have HN := hid hnx
          have k0 : (0 : Int) ≤ (k : Int) := by omega
          have STEP := hid (fun (h : ¬ lessB fs x a k) => show ∀ c, c < k + 1 → ¬ lessB fs x a c from fun c hc => by
            by_cases e : c = k
            · rw [e]; exact h
            · exact H.out c (by omega))
          clear hnx
          cases hb : x.getLsbD k with
          | false =>
            rw [hb] at H1 LB1
            have S1 := hid (STEP.out (fun h => by have := LB1.out.1 h; simp at this))
            clear hb STEP LB1
            go_wp2_with fail
            refine H1.out.mono ?_
            rintro e w3 ⟨rfl, rfl⟩
            go_wp2_with fail
            go_roundw
            case rel => exact ⟨k + 1, by omega, by go_num, hid S1.out, HN.out⟩
            case measure => simp [intOf]; omega
          | true =>
            rw [hb] at H1 LB1
            have CK := hid (C.out (x &&& ~~~ (1#32 <<< k)) wr HN.out)
            have HK := hid (HA.out (closeS fs (x &&& ~~~ (1#32 <<< k))))
            have MH3 := hid (MH2.out k hlt)
            clear hb
            generalize closeS fs (x &&& ~~~ (1#32 <<< k)) = d at *
            cases hd : d.getLsbD a with
            | false =>
              rw [hd] at HK LB1
              have S1 := hid (STEP.out (fun h => by have := LB1.out.1 h; simp at this))
              clear hd STEP LB1 MH3
              go_wp2_with fail
              refine H1.out.mono ?_
              rintro e w3 ⟨rfl, rfl⟩
              go_wp2_with fail
              refine CK.out.mono ?_
              rintro e w4 ⟨rfl, hb4⟩
              have B4 := hid (HN.out.trans (hb4.mono HN.out.size))
              clear hb4
              go_wp2_with fail
              refine (HK.out w4).mono ?_
              rintro e w5 ⟨rfl, rfl⟩
              go_wp2_with fail
              go_roundw
              case rel => exact ⟨k + 1, by omega, by go_num, hid S1.out, B4.out⟩
              case measure => simp [intOf]; omega
            | true =>
              rw [hd] at HK LB1
              have M1 := hid (MH3.out (LB1.out.2 ⟨rfl, rfl⟩))
              clear hd STEP LB1 MH3
              go_wp2_with fail
              refine H1.out.mono ?_
              rintro e w3 ⟨rfl, rfl⟩
              go_wp2_with fail
              refine CK.out.mono ?_
              rintro e w4 ⟨rfl, hb4⟩
              have B4 := hid (HN.out.trans (hb4.mono HN.out.size))
              clear hb4
              go_wp2_with fail
              refine (HK.out w4).mono ?_
              rintro e w5 ⟨rfl, rfl⟩
              go_wp2_with fail
              go_ret
              exact ⟨ret_bool M1.out.symm, B4.out⟩
        · obtain rfl : k = 32 := by omega
          have M1 := hid (MA2.out H.out)
          go_wp2_with fail
          go_ret
          exact ⟨ret_bool M1.out.symm, hnx⟩
  exact go _ rfl

/-! Within. -/
noncomputable def tB (fs : List F) (s x : S) (a : Nat) : Bool := (s &&& ~~~ x).getLsbD a && ((closeS fs x).getLsbD a && minB fs x a)
noncomputable def wXr (fs : List F) (s x : S) (k : Nat) : List F := ((List.range k).filter (tB fs s x)).map fun a => (x, bit a)
theorem wXr_32 (fs : List F) (s x : S) : wXr fs s x 32 = wX fs s x := by
  unfold wXr wX memN
  rw [List.filter_filter]
  congr 1
  apply List.filter_congr
  intro a _
  unfold tB
  rw [BitVec.getLsbD_and, BitVec.getLsbD_and, BitVec.getLsbD_and]
  cases s.getLsbD a <;> cases (~~~x).getLsbD a <;> cases (closeS fs x).getLsbD a <;> cases minB fs x a <;> rfl
theorem wXr_next (fs : List F) (s x : S) (k : Nat) : wXr fs s x (k + 1) = wXr fs s x k ++ (if tB fs s x k then [(x, bit k)] else []) := by
  unfold wXr; rw [List.range_succ, List.filter_append, List.map_append]
  congr 1
  cases h : tB fs s x k <;> simp [h]
theorem wXr_length (fs : List F) (s x : S) (k : Nat) : (wXr fs s x k).length ≤ k := by
  unfold wXr; rw [List.length_map]
  exact Nat.le_trans (List.length_filter_le _ _) (by simp)
theorem wL_nextR {fs : List F} {s x : S} {ys : List S} {k : Nat} (h : ys[k]? = some x) : wL fs s (ys.take (k + 1)) = wL fs s (ys.take k) ++ wXr fs s x 32 := by
  unfold wL; rw [take_next h, List.flatMap_append, wXr_32]; simp
theorem wL_lengthR (fs : List F) (s : S) (ys : List S) : (wL fs s ys).length ≤ 32 * ys.length := by
  induction ys with
  | nil => simp [wL]
  | cons x ys ih =>
    have h1 := wXr_length fs s x 32
    rw [wXr_32] at h1
    have h2 : wL fs s (x :: ys) = wX fs s x ++ wL fs s ys := by unfold wL; rw [List.flatMap_cons]
    rw [h2, List.length_append, List.length_cons]; omega

set_option maxHeartbeats 1600000 in
set_option maxRecDepth 100000 in
theorem refWithin_any (fs : List F) (s : S) (v : Value) (w : World) (hv : RdF w v fs) :
    Calls Tryd.prog 46 #[v, enc s] w fun e w' => ∃ v', e = .returned v' ∧ w'.ownsRow w.heap.size 34 2 v' (wL fs s (subsS s)).length ((wL fs s (subsS s)).flatMap cF) ∧ (wL fs s (subsS s)).length ≤ 274877906944 ∧ Below w.heap.size w w' := by
  have SU := hid (refSubsets_any s w)
  have MI := hid (fun (x : S) (a : Nat) (ha : a < 32) (W : World) (h : Below w.heap.size w W) => refMinP_any fs x a ha v W (hv.below h))
  have HX := hid (fun (x : S) (k : Nat) (hk : k < 32) (W : World) => has_any (s &&& ~~~ x) k hk W)
  obtain ⟨ys, hys⟩ : ∃ ys, subsS s = ys := ⟨_, rfl⟩
  rw [hys]
  have HYS := hid hys
  obtain ⟨ao, cap, rfl, -⟩ := hv.split
  clear hv hys
  simp only [enc_eq] at SU MI HX ⊢
  go_enter Tryd.func46, Tryd.ntmps46
  go_wp2_with fail
  refine SU.out.mono ?_
  rintro e w1 ⟨v1, ys', rfl, ho1, hP, hyl, hb1⟩
  obtain rfl : ys = ys' := ((subsS_of hP).trans HYS.out).symm
  have B1 := hid hb1
  have R1 := hid (RdE.of_owns ho1 (by omega))
  obtain ⟨yo, ycap, rfl, -, hyc⟩ := R1.out.split
  have YC := hid hyc
  clear ho1 hb1 hyc hP SU
  have hs1 := B1.out.size
  go_wp2_with fail
  go_loopw [5, 7] (fun o i wr => ∃ k : Nat, k ≤ ys.length ∧ i = .int .i64 k ∧ wr.ownsRow w1.heap.size 34 2 o (wL fs s (ys.take k)).length ((wL fs s (ys.take k)).flatMap cF) ∧ Below w1.heap.size w1 wr) (fun _ i _ => ys.length - (intOf i).toNat)
  case atStart => exact ⟨0, Nat.zero_le _, rfl, World.ownsRow_nil _ _ _ _, Below.refl _ _⟩
  case round =>
    obtain ⟨k, hk, rfl, hown, hnx⟩ := hrel
    obtain ⟨wo, rfl⟩ : ∃ wo : World, wo = wr := ⟨_, rfl⟩
    have hsz := hnx.size
    have hol : (wL fs s (ys.take k)).length ≤ 32 * k := Nat.le_trans (wL_lengthR _ _ _) (by simp; omega)
    by_cases hlt : k < ys.length
    · obtain ⟨x, hx⟩ := get_some hlt
      obtain ⟨b, off, rfl, hyx⟩ := YC.out k x hx
      have HYX := hid (fun (W : World) (h : Below w1.heap.size w1 W) => show Below w1.heap.size w1 W ∧ W.cell? ⟨b, off + k, none⟩ = some (.int .u32 (iv x)) from ⟨h, hyx W h⟩)
      have N := hid (wL_nextR (fs := fs) (s := s) hx)
      have MI1 := hid (MI.out x)
      have HX1 := hid (HX.out x)
      have NX := hid (fun j => wXr_next fs s x j)
      have NL := hid (fun j => wXr_length fs s x j)
      have TB := hid (fun j => show tB fs s x j = ((s &&& ~~~ x).getLsbD j && ((closeS fs x).getLsbD j && minB fs x j)) from rfl)
      have W0 := hid (show wXr fs s x 0 = [] from rfl)
      clear hyx hx
      generalize wL fs s (ys.take k) = out at *
      generalize wXr fs s x = wx at *
      generalize tB fs s x = tb at *
      have k0 : (0 : Int) ≤ (k : Int) := by omega
      have k1 : (k : Int) < (ys.length : Int) := by omega
      have HO := hid hown
      have HN := hid hnx
      clear hown hnx
      go_wp2_with fail
      go_loopw [5, 8] (fun o i wr => ∃ j : Nat, j ≤ 32 ∧ i = .int .i64 j ∧ wr.ownsRow w1.heap.size 34 2 o (out ++ wx j).length ((out ++ wx j).flatMap cF) ∧ Below w1.heap.size w1 wr) (fun _ i _ => 32 - (intOf i).toNat)
      case atStart => exact ⟨0, by omega, rfl, by rw [W0.out]; simpa using HO.out, HN.out⟩
      case round =>
        obtain ⟨j, hj, rfl, hown, hnx⟩ := hrel
        by_cases hjl : j < 32
        · have e0 := (HYX.out wr hnx).2
          have H1 := hid (HX1.out j hjl wr)
          have M1 := hid (fun (W : World) (h : Below w1.heap.size w1 W) => MI1.out j hjl W (B1.out.trans (h.mono hs1)))
          have NJ := hid (NX.out j)
          have NLJ := NL.out j
          have TJ := hid (TB.out j)
          have j0 : (0 : Int) ≤ (j : Int) := by omega
          have HOW := hid hown
          have HN2 := hid hnx
          clear hown hnx
          cases hb : (s &&& ~~~ x).getLsbD j with
          | false =>
            rw [hb] at H1 TJ
            have T2 := hid (show out ++ wx (j + 1) = out ++ wx j by rw [NJ.out, TJ.out]; simp)
            clear hb TJ NJ
            go_wp2_with fail
            refine H1.out.mono ?_
            rintro e w3 ⟨rfl, rfl⟩
            go_wp2_with fail
            go_roundw
            case rel => exact ⟨j + 1, by omega, by go_num, by rw [T2.out]; exact HOW.out, HN2.out⟩
            case measure => simp [intOf]; omega
          | true =>
            rw [hb] at H1 TJ
            have M2 := hid (M1.out wr HN2.out)
            clear hb
            generalize ((closeS fs x).getLsbD j && minB fs x j) = q at *
            cases q with
            | false =>
              have T2 := hid (show out ++ wx (j + 1) = out ++ wx j by rw [NJ.out, TJ.out]; simp)
              clear TJ NJ
              go_wp2_with fail
              refine H1.out.mono ?_
              rintro e w3 ⟨rfl, rfl⟩
              go_wp2_with fail
              refine M2.out.mono ?_
              rintro e w4 ⟨rfl, hb4⟩
              have O4 := hid (own_below HOW.out hb4)
              have N4 := hid (HN2.out.trans (hb4.mono HN2.out.size))
              clear hb4
              go_wp2_with fail
              go_roundw
              case rel => exact ⟨j + 1, by omega, by go_num, by rw [T2.out]; exact O4.out, N4.out⟩
              case measure => simp [intOf]; omega
            | true =>
              have T2 := hid (show out ++ wx (j + 1) = (out ++ wx j) ++ [(x, bit j)] by rw [NJ.out, TJ.out]; simp)
              have hll : (out ++ wx j).length ≤ out.length + 32 := by rw [List.length_append]; omega
              clear TJ NJ
              generalize out ++ wx j = zs at *
              go_wp2_with fail
              refine H1.out.mono ?_
              rintro e w3 ⟨rfl, rfl⟩
              go_wp2_with fail
              refine M2.out.mono ?_
              rintro e w4 ⟨rfl, hb4⟩
              have hown := own_below HOW.out hb4
              have hnx := HN2.out.trans (hb4.mono HN2.out.size)
              have hsz4 := hnx.size
              clear hb4 e0
              have e0 := (HYX.out w4 hnx).2
              go_wp2_with fail
              go_region_held3 (fun W => Below w1.heap.size w1 W ∧ W.cell? ⟨b, off + k, none⟩ = some (.int .u32 (iv x)))
                (first | exact HYX.out _ hnx.drew | exact HYX.out _ (hnx.alloc hsz4 _).drew | exact HYX.out _ (by assumption))
                ((refine step_pushC (by rfl) _ _ 27 (by rfl) w1.heap.size 34 (.agg #[.int .u32 0, .int .u32 0]) 2 8 undFDs infoFD rfl (by decide) (by decide) cF cF_length cF_one _ zs (by rfl) ((hown.alloc _).drew) ⟨w4.heap.size, 0, none⟩ (x, bit j) (by rfl) (cells_newFd _ (x, bit j)) (by omega) (by simp; omega) ?_; intro v' w5 hown' hgrow; have hb5 : Below w1.heap.size w1 w5 := below_push hnx.drew hsz4 hown.drew hgrow))
              clear hgrow hown hnx e0
              go_wp2_with fail
              go_roundw
              case rel => exact ⟨j + 1, by omega, by go_num, by rw [T2.out]; simpa using hown', hb5⟩
              case measure => simp [intOf]; omega
        · obtain rfl : j = 32 := by omega
          rw [← N.out] at hown
          go_wp2_with fail
          go_roundw
          case rel => exact ⟨k + 1, by omega, by go_num, hown, hnx⟩
          case measure => simp [intOf]; omega
    · rw [take_all hlt] at hown hol
      have O2 := hid (own_mono hown hs1)
      have N2 := hid (B1.out.trans (hnx.mono hs1))
      have hll : (wL fs s ys).length ≤ 274877906944 := by omega
      clear hown hnx
      go_wp2_with fail
      go_ret
      exact ⟨_, rfl, O2.out, hll, N2.out⟩

end Go.Proofs.YtciamnkalmihcaaDoor
