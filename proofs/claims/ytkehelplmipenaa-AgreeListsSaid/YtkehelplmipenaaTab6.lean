/- The walks of drossref03.Valid, agree.check and drossref27.Error. -/
import Derived.Test.YtkehelplmipenaaTab5
namespace Go.Proofs.Ytkehelplmipenaa
open Go.RowKit

set_option maxHeartbeats 1600000 in
theorem refValidT_any (t : T3) (av rv : Value) (w : World) (ht : RdT w av rv t) :
    Calls Try.prog 62 #[.agg #[.string t.1, av, rv]] w fun e w' => e = .returned (.int .i64 (tabE t)) ∧ Below w.heap.size w w' := by
  obtain ⟨nm, ats, rs⟩ := t
  obtain ⟨ha, hr⟩ := ht
  have TE := hid (show tabE (nm, ats, rs) = if nameB nm = false then 1 else if 16 < ats.length ∨ 1000 < rs.length then 3 else if attrsBad ats = true then 1 else rowsE 0 ats.length rs from rfl)
  have hb0 := below_alloc w (.cells #[.string nm, av, rv] 25)
  have C3 := hid (fun W h => cells3 (w := w) (a := .string nm) (b := av) (c := rv) (t := 25) W h)
  have A0 := hid (ha.below hb0)
  have R0 := hid (hr.below hb0)
  obtain ⟨w0, hw0⟩ : ∃ w0 : World, w.alloc (.cells #[.string nm, av, rv] 25) = w0 := ⟨_, rfl⟩
  rw [hw0] at hb0 A0 R0 C3
  have B0 := hid hb0
  have W0 := hid hw0
  clear ha hr hb0 hw0
  have N := hid (refName_any nm w0)
  have NN := hid (refNames_any ats av w0 A0.out)
  have VV := hid (fun (xs : List V3) (v : Value) (W : World) (h : RdV W v xs) => refValids_any xs v W h)
  obtain ⟨ao, acap, rfl, hal, hac0⟩ := A0.out.split
  obtain ⟨ro, rcap, rfl, hrl, hrc⟩ := RdR.split R0.out
  have RC := hid hrc
  clear hac0 hrc
  have go : ∀ r : Int, tabE (nm, ats, rs) = r → Calls Try.prog 62 #[.agg #[.string nm, .slice ao ats.length acap, .slice ro rs.length rcap]] w fun e w' => e = .returned (.int .i64 r) ∧ Below w.heap.size w w' := by
    intro r hr
    rw [hr] at TE
    clear hr
    obtain ⟨c0, c1, c2⟩ := C3.out w0 (Below.refl _ _)
    cases hn : nameB nm with
    | false =>
      rw [hn] at N TE
      rw [if_pos rfl] at TE
      clear hn
      go_enter Try.func62, Try.ntmps62
      go_wp2_with fail
      rw [W0.out]
      refine N.out.mono ?_
      rintro e w' ⟨rfl, rfl⟩
      go_wp2_with fail
      go_ret
      exact ⟨ret_int TE.out.symm, B0.out⟩
    | true =>
      rw [hn] at N TE
      rw [if_neg (by simp)] at TE
      clear hn
      by_cases h16 : ats.length ≤ 16
      · have d16 : decide ((ats.length : Int) > 16) = false := by simp; omega
        by_cases h1000 : rs.length ≤ 1000
        · have d1000 : decide ((rs.length : Int) > 1000) = false := by simp; omega
          rw [if_neg (by omega)] at TE
          cases hab : attrsBad ats with
          | true =>
            rw [hab] at NN TE
            have RF := hid (show (1 : Int) = r by rw [TE.out, if_pos rfl])
            clear TE hab
            go_enter Try.func62, Try.ntmps62
            go_wp2_with fail
            rw [W0.out]
            refine N.out.mono ?_
            rintro e w' ⟨rfl, rfl⟩
            go_wp2_with fail
            refine NN.out.mono ?_
            rintro e w1 ⟨rfl, hb1⟩
            have B1 := hid (B0.out.trans (hb1.mono B0.out.size))
            clear hb1
            go_wp2_with fail
            go_ret
            exact ⟨ret_int RF.out, B1.out⟩
          | false =>
            rw [hab] at NN TE
            have TE2 := hid (show r = rowsE 0 ats.length rs by rw [TE.out, if_neg (by simp)])
            clear TE hab
            go_enter Try.func62, Try.ntmps62
            go_wp2_with fail
            rw [W0.out]
            refine N.out.mono ?_
            rintro e w' ⟨rfl, rfl⟩
            go_wp2_with fail
            refine NN.out.mono ?_
            rintro e wn ⟨rfl, hbn⟩
            have BN := hid hbn
            clear hbn
            go_wp2_with fail
            go_loopw [3, 4] (fun l i wr => ∃ (k : Nat) (L : Int), k ≤ rs.length ∧ i = .int .i64 k ∧ l = .int .i64 L ∧ Hid (r = rowsE L ats.length (rs.drop k)) ∧ Below w0.heap.size w0 wr) (fun _ i _ => rs.length - (intOf i).toNat)
            case atStart => exact ⟨0, 0, Nat.zero_le _, rfl, rfl, hid (by rw [TE2.out]; rfl), BN.out⟩
            case round =>
              obtain ⟨k, L, hk, rfl, rfl, H2, hnx⟩ := hrel
              have hsz := hnx.size
              obtain ⟨b0, b1, b2⟩ := C3.out _ hnx
              by_cases hlt2 : k < rs.length
              · obtain ⟨⟨id, u, vs⟩, hx⟩ := get_some hlt2
                obtain ⟨⟨b, off, rfl, hd⟩, hvs⟩ := RC.out k _ hx
                obtain ⟨e0, e1⟩ := hd wr hnx
                have VS := hid (show RdV wr u vs from hvs wr hnx)
                obtain ⟨uo, ucap, rfl, -⟩ := RdV.split VS.out
                have RE := hid (show r = if id ≤ L then 1 else if vs.length ≠ ats.length then 6 else if vs.any badV = true then 1 else rowsE id ats.length (rs.drop (k + 1)) by rw [H2.out, drop_at hx]; rfl)
                have hb1 := below_alloc wr (.cells #[.int .i64 id, .slice uo vs.length ucap] 67)
                have NX := hid (hnx.trans (hb1.mono hsz))
                have VV1 := hid (VV.out vs _ _ (VS.out.below hb1))
                have f0 : (wr.alloc (.cells #[.int .i64 id, .slice uo vs.length ucap] 67)).cell? ⟨wr.heap.size, 0, none⟩ = some (.int .i64 id) := by simp
                have f1 : (wr.alloc (.cells #[.int .i64 id, .slice uo vs.length ucap] 67)).cell? ⟨wr.heap.size, 1, none⟩ = some (.slice uo vs.length ucap) := by simp
                obtain ⟨g0, g1, g2⟩ := C3.out _ NX.out
                have G1 := g1
                obtain ⟨w1, hw1⟩ : ∃ w1 : World, wr.alloc (.cells #[.int .i64 id, .slice uo vs.length ucap] 67) = w1 := ⟨_, rfl⟩
                rw [hw1] at NX VV1 f0 f1 g0 g1 g2
                have W1 := hid hw1
                have k0 : (0 : Int) ≤ (k : Int) := by omega
                clear hd hvs hx hb1 hw1 hnx c0 c1 c2
                by_cases hid0 : id ≤ L
                · have RF := hid (show (1 : Int) = r by rw [RE.out, if_pos hid0])
                  go_wp2_with fail
                  rw [W1.out]
                  go_wp2_with fail
                  go_ret
                  exact ⟨ret_int RF.out, B0.out.trans (NX.out.mono B0.out.size)⟩
                · have RE2 := hid (show r = if vs.length ≠ ats.length then 6 else if vs.any badV = true then 1 else rowsE id ats.length (rs.drop (k + 1)) by rw [RE.out, if_neg hid0])
                  clear RE
                  by_cases hlen : vs.length = ats.length
                  · have RE3 := hid (show r = if vs.any badV = true then 1 else rowsE id ats.length (rs.drop (k + 1)) by rw [RE2.out, if_neg (by simpa using hlen)])
                    clear RE2
                    rw [hlen] at VV1 f1 G1 W1
                    cases hbv : vs.any badV with
                    | true =>
                      rw [hbv] at VV1 RE3
                      have RF := hid (show (1 : Int) = r by rw [RE3.out, if_pos rfl])
                      clear RE3 hbv
                      go_wp2_with fail
                      rw [W1.out]
                      go_wp2_with fail
                      refine VV1.out.mono ?_
                      rintro e w2 ⟨rfl, hb2⟩
                      have B2 := hid (NX.out.trans (hb2.mono NX.out.size))
                      clear hb2
                      go_wp2_with fail
                      go_ret
                      exact ⟨ret_int RF.out, B0.out.trans (B2.out.mono B0.out.size)⟩
                    | false =>
                      rw [hbv] at VV1 RE3
                      have RF := hid (show r = rowsE id ats.length (rs.drop (k + 1)) by rw [RE3.out, if_neg (by simp)])
                      clear RE3 hbv
                      go_wp2_with fail
                      rw [W1.out]
                      go_wp2_with fail
                      refine VV1.out.mono ?_
                      rintro e w2 ⟨rfl, hb2⟩
                      have B2 := hid (NX.out.trans (hb2.mono NX.out.size))
                      clear hb2
                      go_wp2_with fail
                      go_roundw
                      case rel => exact ⟨k + 1, id, by omega, by go_num, rfl, hid RF.out, B2.out⟩
                      case measure => simp [intOf]; omega
                  · have RF := hid (show (6 : Int) = r by rw [RE2.out, if_pos hlen])
                    have q1 : ((vs.length : Int) == (ats.length : Int)) = false := by simp; omega
                    have q2 : ¬ (vs.length : Int) = (ats.length : Int) := by omega
                    have q3 : ((vs.length : Int) != (ats.length : Int)) = true := by simp; omega
                    have q4 : (vs.length == ats.length) = false := by simpa using hlen
                    clear RE2
                    go_wp2_with fail
                    rw [W1.out]
                    go_wp2_with fail
                    go_ret
                    exact ⟨ret_int RF.out, B0.out.trans (NX.out.mono B0.out.size)⟩
              · have RF := hid (show (0 : Int) = r by rw [H2.out, List.drop_eq_nil_of_le (by omega)]; rfl)
                have HN := hid hnx
                clear hnx
                go_wp2_with fail
                go_ret
                exact ⟨ret_int RF.out, B0.out.trans (HN.out.mono B0.out.size)⟩
        · have d1000 : decide ((rs.length : Int) > 1000) = true := by simp; omega
          have RF := hid (show (3 : Int) = r by rw [TE.out, if_pos (by omega)])
          clear TE
          go_enter Try.func62, Try.ntmps62
          go_wp2_with fail
          rw [W0.out]
          refine N.out.mono ?_
          rintro e w' ⟨rfl, rfl⟩
          go_wp2_with fail
          go_ret
          exact ⟨ret_int RF.out, B0.out⟩
      · have d16 : decide ((ats.length : Int) > 16) = true := by simp; omega
        have RF := hid (show (3 : Int) = r by rw [TE.out, if_pos (by omega)])
        clear TE
        go_enter Try.func62, Try.ntmps62
        go_wp2_with fail
        rw [W0.out]
        refine N.out.mono ?_
        rintro e w' ⟨rfl, rfl⟩
        go_wp2_with fail
        go_ret
        exact ⟨ret_int RF.out, B0.out⟩
  exact go _ rfl

/-- The error of a table for chapter 27: no more than 200 rows. -/
def tabE2 (t : T3) : Int := if tabE t ≠ 0 then tabE t else if 200 < t.2.2.length then 3 else 0

theorem check_any (t : T3) (av rv : Value) (w : World) (ht : RdT w av rv t) :
    Calls Try.prog 38 #[.agg #[.string t.1, av, rv]] w fun e w' => e = .returned (.int .i64 (tabE2 t)) ∧ Below w.heap.size w w' := by
  obtain ⟨nm, ats, rs⟩ := t
  have E2 := hid (show tabE2 (nm, ats, rs) = if tabE (nm, ats, rs) ≠ 0 then tabE (nm, ats, rs) else if 200 < rs.length then 3 else 0 from rfl)
  have hb0 := below_alloc w (.cells #[.string nm, av, rv] 25)
  have C3 := hid (fun W h => cells3 (w := w) (a := .string nm) (b := av) (c := rv) (t := 25) W h)
  have V := hid (tvalid_any (nm, ats, rs) av rv _ (ht.below hb0))
  have R0 := hid (ht.2.below hb0)
  obtain ⟨w0, hw0⟩ : ∃ w0 : World, w.alloc (.cells #[.string nm, av, rv] 25) = w0 := ⟨_, rfl⟩
  rw [hw0] at hb0 V R0 C3
  have B0 := hid hb0
  have W0 := hid hw0
  clear ht hb0 hw0
  obtain ⟨ro, rcap, rfl, hrl, -⟩ := RdR.split R0.out
  generalize tabE (nm, ats, rs) = e at *
  have go : ∀ r : Int, tabE2 (nm, ats, rs) = r → Calls Try.prog 38 #[.agg #[.string nm, av, .slice ro rs.length rcap]] w fun e w' => e = .returned (.int .i64 r) ∧ Below w.heap.size w w' := by
    intro r hr
    rw [hr] at E2
    clear hr
    obtain ⟨c0, c1, c2⟩ := C3.out w0 (Below.refl _ _)
    by_cases he : e = 0
    · subst he
      by_cases h200 : rs.length ≤ 200
      · have d200 : decide ((rs.length : Int) > 200) = false := by simp; omega
        have RF := hid (show (0 : Int) = r by rw [E2.out, if_neg (by simp), if_neg (by omega)])
        clear E2
        go_enter Try.func38, Try.ntmps38
        go_wp2_with fail
        rw [W0.out]
        go_wp2_with fail
        refine V.out.mono ?_
        rintro e w1 ⟨rfl, hb1⟩
        have B1 := hid (B0.out.trans (hb1.mono B0.out.size))
        obtain ⟨b0, b1, b2⟩ := C3.out _ hb1
        clear hb1
        go_wp2_with fail
        go_ret
        exact ⟨ret_int RF.out, B1.out⟩
      · have d200 : decide ((rs.length : Int) > 200) = true := by simp; omega
        have RF := hid (show (3 : Int) = r by rw [E2.out, if_neg (by simp), if_pos (by omega)])
        clear E2
        go_enter Try.func38, Try.ntmps38
        go_wp2_with fail
        rw [W0.out]
        go_wp2_with fail
        refine V.out.mono ?_
        rintro e w1 ⟨rfl, hb1⟩
        have B1 := hid (B0.out.trans (hb1.mono B0.out.size))
        obtain ⟨b0, b1, b2⟩ := C3.out _ hb1
        clear hb1
        go_wp2_with fail
        go_ret
        exact ⟨ret_int RF.out, B1.out⟩
    · have RF := hid (show e = r by rw [E2.out, if_pos he])
      have q1 : (e == 0) = false := by simpa using he
      have q3 : (e != 0) = true := by simpa using he
      clear E2
      go_enter Try.func38, Try.ntmps38
      go_wp2_with fail
      rw [W0.out]
      go_wp2_with fail
      refine V.out.mono ?_
      rintro e w1 ⟨rfl, hb1⟩
      have B1 := hid (B0.out.trans (hb1.mono B0.out.size))
      clear hb1
      go_wp2_with fail
      go_ret
      exact ⟨ret_int RF.out, B1.out⟩
  exact go _ rfl
theorem refError_any (t : T3) (av rv : Value) (w : World) (ht : RdT w av rv t) :
    Calls Try.prog 41 #[.agg #[.string t.1, av, rv]] w fun e w' => e = .returned (.int .i64 (tabE2 t)) ∧ Below w.heap.size w w' := by
  obtain ⟨nm, ats, rs⟩ := t
  have E2 := hid (show tabE2 (nm, ats, rs) = if tabE (nm, ats, rs) ≠ 0 then tabE (nm, ats, rs) else if 200 < rs.length then 3 else 0 from rfl)
  have hb0 := below_alloc w (.cells #[.string nm, av, rv] 25)
  have C3 := hid (fun W h => cells3 (w := w) (a := .string nm) (b := av) (c := rv) (t := 25) W h)
  have V := hid (refValidT_any (nm, ats, rs) av rv _ (ht.below hb0))
  have R0 := hid (ht.2.below hb0)
  obtain ⟨w0, hw0⟩ : ∃ w0 : World, w.alloc (.cells #[.string nm, av, rv] 25) = w0 := ⟨_, rfl⟩
  rw [hw0] at hb0 V R0 C3
  have B0 := hid hb0
  have W0 := hid hw0
  clear ht hb0 hw0
  obtain ⟨ro, rcap, rfl, hrl, -⟩ := RdR.split R0.out
  generalize tabE (nm, ats, rs) = e at *
  have go : ∀ r : Int, tabE2 (nm, ats, rs) = r → Calls Try.prog 41 #[.agg #[.string nm, av, .slice ro rs.length rcap]] w fun e w' => e = .returned (.int .i64 r) ∧ Below w.heap.size w w' := by
    intro r hr
    rw [hr] at E2
    clear hr
    obtain ⟨c0, c1, c2⟩ := C3.out w0 (Below.refl _ _)
    by_cases he : e = 0
    · subst he
      by_cases h200 : rs.length ≤ 200
      · have d200 : decide ((rs.length : Int) > 200) = false := by simp; omega
        have RF := hid (show (0 : Int) = r by rw [E2.out, if_neg (by simp), if_neg (by omega)])
        clear E2
        go_enter Try.func41, Try.ntmps41
        go_wp2_with fail
        rw [W0.out]
        go_wp2_with fail
        refine V.out.mono ?_
        rintro e w1 ⟨rfl, hb1⟩
        have B1 := hid (B0.out.trans (hb1.mono B0.out.size))
        obtain ⟨b0, b1, b2⟩ := C3.out _ hb1
        clear hb1
        go_wp2_with fail
        go_ret
        exact ⟨ret_int RF.out, B1.out⟩
      · have d200 : decide ((rs.length : Int) > 200) = true := by simp; omega
        have RF := hid (show (3 : Int) = r by rw [E2.out, if_neg (by simp), if_pos (by omega)])
        clear E2
        go_enter Try.func41, Try.ntmps41
        go_wp2_with fail
        rw [W0.out]
        go_wp2_with fail
        refine V.out.mono ?_
        rintro e w1 ⟨rfl, hb1⟩
        have B1 := hid (B0.out.trans (hb1.mono B0.out.size))
        obtain ⟨b0, b1, b2⟩ := C3.out _ hb1
        clear hb1
        go_wp2_with fail
        go_ret
        exact ⟨ret_int RF.out, B1.out⟩
    · have RF := hid (show e = r by rw [E2.out, if_pos he])
      have q1 : (e == 0) = false := by simpa using he
      have q3 : (e != 0) = true := by simpa using he
      clear E2
      go_enter Try.func41, Try.ntmps41
      go_wp2_with fail
      rw [W0.out]
      go_wp2_with fail
      refine V.out.mono ?_
      rintro e w1 ⟨rfl, hb1⟩
      have B1 := hid (B0.out.trans (hb1.mono B0.out.size))
      clear hb1
      go_wp2_with fail
      go_ret
      exact ⟨ret_int RF.out, B1.out⟩
  exact go _ rfl

end Go.Proofs.Ytkehelplmipenaa
