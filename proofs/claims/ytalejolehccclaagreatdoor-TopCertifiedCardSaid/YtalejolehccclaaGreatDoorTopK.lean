/- IndexFunc and ContainsFunc over counted sets at the function value of TopCertified; the witnesses' agree sets (plain). -/
import Derived.Test.YtalejolehccclaaGreatDoorKmG
import Derived.Test.YtalejolehccclaaGreatDoorGKm3
import Derived.Test.YtalejolehccclaaGreatDoorGTab20
namespace Go.Proofs.YtalejolehccclaaGreatDoor
open Go.RowKit
set_option linter.unusedVariables false

/-! Plain. -/
def hasC (st : S) (x : C2) : Bool := x.1 == st
theorem wits_of {t : T3} (hk : tabE2 t = 0) {x : W3} (h : x ∈ witsL t.2.2) : ofS t x.2.1 x.2.2 = (x.1, 0) ∧ (cntL (pairsS t.2.2)).any (hasC x.1) = true := by
  obtain ⟨h1, h2⟩ := witsL_mem h
  obtain ⟨i, k, r, q, hik, hr, hq, rfl⟩ := mem_seqW h1
  have hi := ids_inc hk
  refine ⟨ofS_some hk (fnd_inc hi hr) (fnd_inc hi hq) hr hq, ?_⟩
  obtain ⟨c, hc, he⟩ := cntL_mem (((max_ord _).2 _).1 h2).1
  exact List.any_eq_true.2 ⟨c, hc, by unfold hasC; rw [he]; simp⟩

theorem topc1_any (st : S) (b : Nat) (x : C2) (w : World) (hc : w.cell? ⟨b, 0, none⟩ = some (.int .u32 (iv st))) :
    Calls Tryz.prog 21 (#[.agg #[.int .u32 (iv x.1), .int .i64 x.2]] ++ #[.pointer (some ⟨b, 0, none⟩)]) w fun e w' => e = .returned (.bool (hasC st x)) ∧ Below w.heap.size w w' := by
  show Calls Tryz.prog 21 #[.agg #[.int .u32 (iv x.1), .int .i64 x.2], .pointer (some ⟨b, 0, none⟩)] w _
  have hb := below_alloc w (.cells #[.int .u32 (iv x.1), .int .i64 x.2] 65)
  obtain ⟨c0, c1⟩ := cells2 (w := w) (a := .int .u32 (iv x.1)) (b := .int .i64 x.2) (t := 65) _ (Below.refl _ _)
  have hc' := (hb.cell (p := ⟨b, 0, none⟩) (World.block_lt_of_cell? _ _ hc)).trans hc
  have HB := hid hb
  have HQ := hid (show hasC st x = (x.1 == st) from rfl)
  clear hc hb
  go_enter Tryz.func21, Tryz.ntmps21
  go_wp2_with fail
  go_ret
  exact ⟨ret_bool HQ.out.symm, HB.out⟩
def CtPost (p : C2 → Bool) (xs : List C2) (w : World) (e : Ending) (w' : World) : Prop :=
  Below w.heap.size w w' ∧ ((e = .returned (.int .i64 (-1)) ∧ xs.any p = false) ∨ ∃ k : Nat, e = .returned (.int .i64 (k : Int)) ∧ xs.any p = true)
theorem indexCt_any (st : S) (b : Nat) (xs : List C2) (v : Value) (w : World) (hv : RdCt w v xs) (hc : w.cell? ⟨b, 0, none⟩ = some (.int .u32 (iv st))) :
    Calls Tryz.prog 53 #[v, .func (.func 21) #[] #[.pointer (some ⟨b, 0, none⟩)]] w (CtPost (hasC st) xs w) := by
  obtain ⟨ao, cap, rfl, hl, hd⟩ := RdCt.split hv
  have HD := hid hd
  have hbl := World.block_lt_of_cell? _ _ hc
  have F2 := hid (fun (x : C2) (W : World) (h : Below w.heap.size w W) => topc1_any st b x W ((h.cell (p := ⟨b, 0, none⟩) hbl).trans hc))
  have eg := enters _ _ _ Tryz.func21 (by kernel_rfl) rfl
  clear hd hv hc hbl
  go_enter Tryz.func53, Tryz.ntmps53
  go_wp2_with fail
  go_loopw [8] (fun i wr => ∃ k : Nat, k ≤ xs.length ∧ i = .int .i64 k ∧ Hid ((xs.take k).any (hasC st) = false) ∧ Below w.heap.size w wr) (fun i _ => xs.length - (intOf i).toNat)
  case atStart => exact ⟨0, Nat.zero_le _, rfl, hid rfl, Below.refl _ _⟩
  case round =>
    obtain ⟨k, hk, rfl, H, hnx⟩ := hrel
    have hsz := hnx.size
    by_cases hlt : k < xs.length
    · obtain ⟨x, hx⟩ := get_some hlt
      obtain ⟨b', off, rfl, h1⟩ := HD.out k x hx
      obtain ⟨e0, e1⟩ := h1 wr hnx
      have C1 := hid (F2.out x wr hnx)
      have NX := hid hnx
      have TN := hid (take_next hx)
      have MX := hid (List.mem_of_getElem? hx)
      clear h1 hx hnx
      cases hq : hasC st x with
      | true =>
        rw [hq] at C1
        have AN := hid (show xs.any (hasC st) = true from List.any_eq_true.2 ⟨x, MX.out, hq⟩)
        clear hq
        go_wp2_with fail
        refine C1.out.mono ?_
        rintro e w2 ⟨rfl, hb2⟩
        have B2 := hid (NX.out.trans (hb2.mono hsz))
        clear hb2
        go_wp2_with fail
        go_ret
        exact ⟨B2.out, .inr ⟨k, rfl, AN.out⟩⟩
      | false =>
        rw [hq] at C1
        have AN := hid (show (xs.take (k + 1)).any (hasC st) = false by rw [TN.out, List.any_append, H.out]; simp [hq])
        clear hq
        go_wp2_with fail
        refine C1.out.mono ?_
        rintro e w2 ⟨rfl, hb2⟩
        have B2 := hid (NX.out.trans (hb2.mono hsz))
        clear hb2
        go_wp2_with fail
        go_roundw
        case rel => exact ⟨k + 1, by omega, by go_num, AN, B2.out⟩
        case measure => simp [intOf]; omega
    · have AN := hid (show xs.any (hasC st) = false by have h := H.out; rwa [List.take_of_length_le (by omega)] at h)
      have NX := hid hnx
      clear hnx
      go_wp2_with fail
      go_ret
      exact ⟨NX.out, .inl ⟨rfl, AN.out⟩⟩
theorem containsCt_any (st : S) (b : Nat) (xs : List C2) (v : Value) (w : World) (hv : RdCt w v xs) (hc : w.cell? ⟨b, 0, none⟩ = some (.int .u32 (iv st))) :
    Calls Tryz.prog 20 #[v, .func (.func 21) #[] #[.pointer (some ⟨b, 0, none⟩)]] w fun e w' => e = .returned (.bool (xs.any (hasC st))) ∧ Below w.heap.size w w' := by
  have IX := hid (indexCt_any st b xs v w hv hc)
  obtain ⟨ao, cap, rfl, -⟩ := RdCt.split hv
  obtain ⟨R, hR⟩ : ∃ R, xs.any (hasC st) = R := ⟨_, rfl⟩
  rw [hR]
  have HR := hid hR
  clear hv hc hR
  go_enter Tryz.func20, Tryz.ntmps20
  go_wp2_with fail
  refine IX.out.mono ?_
  rintro e w2 ⟨hb2, ⟨rfl, ha⟩ | ⟨k, rfl, ha⟩⟩
  · have B2 := hid hb2
    have RF := hid (show R = false by rw [← HR.out]; exact ha)
    clear hb2 ha
    go_wp2_with fail
    go_ret
    exact ⟨by rw [RF.out]; rfl, B2.out⟩
  · have B2 := hid hb2
    have RF := hid (show R = true by rw [← HR.out]; exact ha)
    have k0 : (0 : Int) ≤ (k : Int) := by omega
    have k1 : decide ((k : Int) ≥ 0) = true := by simp
    clear hb2 ha
    go_wp2_with fail
    go_ret
    exact ⟨by rw [RF.out]; first | rfl | simp, B2.out⟩

end Go.Proofs.YtalejolehccclaaGreatDoor
