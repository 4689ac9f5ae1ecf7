/- The walk of agree.without: the agree sets without an attribute. -/
import Derived.Test.YtkehelplmipenaaTab14
namespace Go.Proofs.Ytkehelplmipenaa
open Go.RowKit

theorem bit_zero (s : S) (k : Nat) : (s >>> k &&& 1#32 == 0#32) = !s.getLsbD k := by
  have h := bit_test s k
  have h1 : (1 : Int) = iv 1#32 := by decide
  rw [h1, iv_beq] at h
  have h2 : s >>> k &&& 1#32 = 0#32 ∨ s >>> k &&& 1#32 = 1#32 := by
    cases hb : s.getLsbD k with
    | true => rw [hb] at h; exact .inr (by simpa using h)
    | false =>
      refine .inl ?_
      apply BitVec.eq_of_getLsbD_eq
      intro i hi
      cases i with
      | zero => simpa using hb
      | succ i => simp [BitVec.getLsbD_one]
  rw [← h]
  rcases h2 with e | e <;> rw [e] <;> decide
/-- The error of a table and an attribute. -/
def arityE (t : T3) (a : Int) : Int := if tabE2 t ≠ 0 then tabE2 t else if a < 0 ∨ (t.2.1.length : Int) ≤ a then 6 else 0
theorem arityE_ok {t : T3} {a : Int} (h : arityE t a = 0) : tabE2 t = 0 ∧ ∃ k : Nat, a = k ∧ k < t.2.1.length := by
  unfold arityE at h
  split at h
  · rename_i h1; exact absurd h h1
  · rename_i h1
    split at h
    · exact absurd h (by decide)
    · rename_i h2
      exact ⟨by simpa using h1, a.toNat, by omega, by omega⟩

set_option maxHeartbeats 800000 in
set_option maxRecDepth 100000 in
theorem without_err (t : T3) (av rv : Value) (a : Int) (w : World) (ht : RdT w av rv t) (hk : arityE t a ≠ 0) :
    Calls Try.prog 44 #[.agg #[.string t.1, av, rv], .int .i64 a] w fun e w' => e = .returned (.tuple #[.slice none 0 0, .int .i64 (arityE t a)]) ∧ Below w.heap.size w w' := by
  have hb0 := below_alloc w (.cells #[.string t.1, av, rv] 25)
  have C3 := hid (fun W h => cells3 (w := w) (a := .string t.1) (b := av) (c := rv) (t := 25) W h)
  have CH := hid (check_any t av rv _ (ht.below hb0))
  obtain ⟨w0, hw0⟩ : ∃ w0 : World, w.alloc (.cells #[.string t.1, av, rv] 25) = w0 := ⟨_, rfl⟩
  rw [hw0] at hb0 CH C3
  have B0 := hid hb0
  have W0 := hid hw0
  obtain ⟨nm, ats, rs⟩ := t
  obtain ⟨ao, acap, rfl, -⟩ := RdE.split ht.1
  have AE := hid (show arityE (nm, ats, rs) a = if tabE2 (nm, ats, rs) ≠ 0 then tabE2 (nm, ats, rs) else if a < 0 ∨ (ats.length : Int) ≤ a then 6 else 0 from rfl)
  obtain ⟨c0, c1, c2⟩ := C3.out _ (Below.refl _ _)
  clear hb0 hw0 ht
  by_cases he : tabE2 (nm, ats, rs) = 0
  · rw [he, if_neg (by simp)] at AE
    have KK := hid he
    clear he
    by_cases ha : a < 0
    · have AE2 := hid (show arityE (nm, ats, rs) a = 6 by rw [AE.out, if_pos (.inl ha)])
      rw [AE2.out]
      clear hk
      go_enter Try.func44, Try.ntmps44
      go_wp2_with fail
      rw [W0.out]
      go_wp2_with fail
      refine CH.out.mono ?_
      rw [KK.out]
      rintro e w1 ⟨rfl, hb1⟩
      have B1 := hid (B0.out.trans (hb1.mono B0.out.size))
      obtain ⟨d0, d1, d2⟩ := C3.out _ hb1
      clear hb1
      go_wp2_with fail
      go_ret2
      exact ⟨rfl, B1.out⟩
    · have ha2 : (ats.length : Int) ≤ a := by
        rcases Int.lt_or_le a ats.length with h | h
        · exfalso; apply hk; rw [AE.out, if_neg (by omega)]
        · exact h
      have AE2 := hid (show arityE (nm, ats, rs) a = 6 by rw [AE.out, if_pos (.inr ha2)])
      rw [AE2.out]
      have ha3 : decide (a ≥ (ats.length : Int)) = true := by simpa using ha2
      clear hk ha2
      go_enter Try.func44, Try.ntmps44
      go_wp2_with fail
      rw [W0.out]
      go_wp2_with fail
      refine CH.out.mono ?_
      rw [KK.out]
      rintro e w1 ⟨rfl, hb1⟩
      have B1 := hid (B0.out.trans (hb1.mono B0.out.size))
      obtain ⟨d0, d1, d2⟩ := C3.out _ hb1
      clear hb1
      go_wp2_with fail
      go_ret2
      exact ⟨rfl, B1.out⟩
  · rw [if_pos he] at AE
    rw [AE.out]
    have hne : ((tabE2 (nm, ats, rs)) != (0 : Int)) = true := by simpa using he
    clear AE he hk
    generalize tabE2 (nm, ats, rs) = n at *
    go_enter Try.func44, Try.ntmps44
    go_wp2_with fail
    rw [W0.out]
    go_wp2_with fail
    refine CH.out.mono ?_
    rintro e w1 ⟨rfl, hb1⟩
    have B1 := hid (B0.out.trans (hb1.mono B0.out.size))
    clear hb1
    go_wp2_with fail
    go_ret2
    exact ⟨rfl, B1.out⟩

set_option maxHeartbeats 1600000 in
set_option maxRecDepth 100000 in
theorem without_ok (t : T3) (av rv : Value) (a : Nat) (w : World) (ht : RdT w av rv t) (hk : tabE2 t = 0) (ha : a < t.2.1.length) :
    Calls Try.prog 44 #[.agg #[.string t.1, av, rv], .int .i64 (a : Int)] w fun e w' => ∃ (v' : Value) (ks : List S), e = .returned (.tuple #[v', .int .i64 0]) ∧ w'.ownsRow w.heap.size 33 1 v' ks.length (ks.map enc) ∧ (∀ s, s ∈ ks ↔ s ∈ withoutS (pairsS t.2.2) a) ∧ ks.length ≤ 40000 ∧ Below w.heap.size w w' := by
  have hb0 := below_alloc w (.cells #[.string t.1, av, rv] 25)
  have C3 := hid (fun W h => cells3 (w := w) (a := .string t.1) (b := av) (c := rv) (t := 25) W h)
  have T0 := hid (ht.below hb0)
  obtain ⟨w0, hw0⟩ : ∃ w0 : World, w.alloc (.cells #[.string t.1, av, rv] 25) = w0 := ⟨_, rfl⟩
  rw [hw0] at hb0 C3 T0
  have B0 := hid hb0
  have W0 := hid hw0
  have hsz0 := hb0.size
  have CH := hid (fun (W : World) (h : Below w0.heap.size w0 W) => check_any t av rv W (T0.out.below h))
  have CO := hid (fun (W : World) (h : Below w0.heap.size w0 W) => counts_any t av rv W (T0.out.below h) hk)
  have KK := hid hk
  have ha16 : a < 16 := Nat.lt_of_lt_of_le ha (tabE2_ok hk).1
  obtain ⟨nm, ats, rs⟩ := t
  replace ha : a < ats.length := ha
  obtain ⟨ao, acap, rfl, -⟩ := RdE.split ht.1
  clear hb0 hw0 hk
  obtain ⟨G, hG⟩ : ∃ G, pairsS (nm, ats, rs).2.2 = G := ⟨_, rfl⟩
  rw [hG] at CO ⊢
  clear hG
  obtain ⟨c0, c1, c2⟩ := C3.out _ (Below.refl _ _)
  have a0 : (0 : Int) ≤ (a : Int) := by omega
  have an0 : ¬ (a : Int) < 0 := by omega
  have ha3 : decide ((a : Int) ≥ (ats.length : Int)) = false := by simp; omega
  go_enter Try.func44, Try.ntmps44
  go_wp2_with fail
  rw [W0.out]
  go_wp2_with fail
  refine (CH.out _ (Below.refl _ _)).mono ?_
  rw [KK.out]
  rintro e w1 ⟨rfl, hb1⟩
  have B1 := hid hb1
  obtain ⟨d0, d1, d2⟩ := C3.out _ hb1
  clear hb1 c0 c1 c2
  go_wp2_with fail
  refine (CO.out _ B1.out).mono ?_
  rintro e w2 ⟨b, ps, rfl, hown, hn, hperm, hb, hb2⟩
  have B2 := hid (B0.out.trans (B1.out.trans (hb2.mono B1.out.size) |>.mono hsz0))
  have hs2 := B2.out.size
  have HM := hid (show ∀ s, memB ps s = decide (s ∈ G) from fun s => by rw [has_perm hperm]; rfl)
  have HO := hid hown
  have hbl := hown.lt
  clear hown hb2 hperm d0 d1 d2
  generalize cntF ps = g at *
  generalize memB ps = pp at *
  generalize ps.length = n at *
  go_wp2_with (at_range; refine wpList_krange (E := cntElems Try.prog 2 undI64) (z := 0) (k := 33) rfl _ 78 rfl undU32 undMapC rfl HO.out ?_; intro w3 cnt hrg hcn hb3 hs3)
  go_frame
  have ST := hid (And.intro hrg hb3)
  clear hrg hb3
  obtain ⟨qf, hqf⟩ : ∃ qf : S → Bool, (fun s : S => !s.getLsbD a) = qf := ⟨_, rfl⟩
  have QF := hid (show ∀ s : S, qf s = !s.getLsbD a from fun s => by rw [← hqf])
  clear hqf
  go_loopw [7] (fun u wr => ∃ (left : S → Bool) (cnt : Nat) (ks : List S), RngC wr b w2.heap.size n g pp left cnt ∧ wr.ownsRow (w2.heap.size + 1) 33 1 u ks.length (ks.map enc) ∧ Hid (CollF pp left qf ks) ∧ ks.length + cnt ≤ n ∧ Below w2.heap.size w2 wr ∧ w2.heap.size + 1 ≤ wr.heap.size) (fun _ wr => wr.rangeLeft b w2.heap.size)
  case atStart => exact ⟨pp, cnt, [], ST.out.1, World.ownsRow_nil _ _ _ _, hid (CollF.start pp qf), by simpa using hcn, ST.out.2, by omega⟩
  case round =>
    obtain ⟨left, cnt1, ks, hrg, hl, CL, hcn1, hnx, hsz⟩ := hrel
    have hLE := hid hrg.left_eq
    go_wp2_with (at_next; refine wpList_knext (E := cntElems Try.prog 2 undI64) (z := 0) (k := 33) rfl _ rfl undU32 rfl hrg ?_ ?_)
    · intro hc0 hl0
      have hmem := hid (show ∀ s, s ∈ ks ↔ s ∈ withoutS G a from fun s => by rw [CL.out.done hl0, HM.out, QF.out, mem_withoutS]; simp)
      have HL := hid (own_mono hl (B' := w.heap.size) (by omega))
      have HN := hid (B2.out.trans (hnx.mono hs2))
      clear hl0 hrg hl hnx hLE
      go_wp2_with fail
      go_ret2
      exact ⟨_, ks, rfl, HL.out, hmem.out, by omega, HN.out⟩
    · intro s c w4 cnt2 hls hps hrg4 hlt hg4 hs4 hen
      have hl4 := own_grown2 hl hg4 (by omega)
      have hnx4 : Below w2.heap.size w2 w4 := hnx.grown hg4 hnx.size (fun j hj => by cases hj; exact Nat.le_refl _)
      have RG4 := hid hrg4
      have HS4 := hid hs4
      have hsz4 : w2.heap.size + 1 ≤ w4.heap.size := by omega
      have BZ := bit_zero s a
      clear hl hnx hrg hg4 hrg4 hs4
      cases hq : s.getLsbD a with
      | false =>
        rw [hq] at BZ
        have bz : (s >>> a &&& 1#32 == 0#32) = true := by simpa using BZ
        have CL4 := hid (CL.out.yes hls hps (by rw [QF.out, hq]; rfl))
        clear BZ hq
        go_wp2_with (at_builtin; refine wpList_push rfl _ _ 37 rfl (w2.heap.size + 1) 33 (.int .u32 0) 4 undSets infoSet rfl (by decide) enc (fun _ => rfl) _ ks rfl (hl4.alloc _) ⟨w4.heap.size, 0, none⟩ s rfl (by simp [enc]) (by omega) (by simp; omega) ?_)
        intro v' w5 hown5 hgrow
        have RG5 := hid ((RG4.out.below (below_alloc w4 _)).kept hgrow (fun e => by have := (hl4.lt _ e.symm).1; omega) (fun e => by have := (hl4.lt _ e.symm).1; omega))
        have hb5 := hid (below_push hnx4 hnx4.size (own_mono hl4 (by omega)) hgrow)
        have hs5 := hgrow.size
        simp at hs5
        have ho5 := hid hown5
        have MS := hid (show wr.rangeLeft b w2.heap.size = cnt1 ∧ w5.rangeLeft b w2.heap.size = cnt2 from ⟨hLE.out, RG5.out.left_eq⟩)
        clear hgrow hl4 hnx4 hown5 hen hLE
        go_wp2_with fail
        go_roundw
        case rel => exact ⟨_, cnt2, ks ++ [s], RG5.out, by simpa using ho5.out, CL4, by simp; omega, hb5.out, by omega⟩
        case measure => rw [MS.out.1, MS.out.2]; exact hlt
      | true =>
        rw [hq] at BZ
        have bz : (s >>> a &&& 1#32 == 0#32) = false := by simpa using BZ
        have CL4 := hid (CL.out.no (s := s) (by rw [QF.out, hq]; rfl))
        have MS := hid (show wr.rangeLeft b w2.heap.size = cnt1 ∧ w4.rangeLeft b w2.heap.size = cnt2 from ⟨hLE.out, RG4.out.left_eq⟩)
        have HL4 := hid hl4
        have HN4 := hid hnx4
        clear BZ hq hl4 hnx4 hLE
        go_wp2_with fail
        go_roundw
        case rel => exact ⟨_, cnt2, ks, RG4.out, HL4.out, CL4, by omega, HN4.out, hsz4⟩
        case measure => rw [MS.out.1, MS.out.2]; exact hlt

end Go.Proofs.Ytkehelplmipenaa
