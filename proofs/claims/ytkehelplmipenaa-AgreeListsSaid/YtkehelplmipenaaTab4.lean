/- The walks of table.Valid, of drossref03's Names and Valid, and of the checks of chapter 27. -/
import Derived.Test.YtkehelplmipenaaTab3
import Derived.StillTailTactics
import Derived.Deep.RegionHeld3
namespace Go.Proofs.Ytkehelplmipenaa
open Go.RowKit

theorem RdE.takeT {α : Type} {f : α → Value} {w : World} {ao : Option Addr} {n cap k : Nat} {xs : List α} (h : RdE f w (.slice ao n cap) xs) (hk : k ≤ xs.length) : RdE f w (.slice ao k cap) (xs.take k) := by
  obtain ⟨ao', cap', he, h1, h2, h3⟩ := h
  cases he
  refine ⟨_, _, by rw [List.length_take, Nat.min_eq_left hk], by rw [List.length_take]; omega, by rw [List.length_take]; omega, fun hp => ?_⟩
  rw [List.length_take] at hp
  obtain ⟨b, off, e, hb, hc⟩ := h3 (by omega)
  refine ⟨b, off, e, hb, fun i x hi => hc i x ?_⟩
  have hik : i < k := by
    have := (List.getElem?_eq_some_iff.1 hi).1
    rw [List.length_take] at this; omega
  rwa [List.getElem?_take_of_lt hik] at hi

/-- A table: its name, its attributes, its rows. -/
abbrev T3 := ByteArray × List ByteArray × List Row3
def RdT (w : World) (av rv : Value) (t : T3) : Prop := RdE encT w av t.2.1 ∧ RdR w rv t.2.2
theorem RdT.below {w w' : World} {av rv : Value} {t : T3} (h : RdT w av rv t) (hb : Below w.heap.size w w') : RdT w' av rv t := ⟨h.1.below hb, h.2.below hb⟩

def attrBad (ats : List ByteArray) (i : Nat) : Bool := !nameB (ats.getD i (ByteArray.mk #[])) || (ats.take i).any (eqT (ats.getD i (ByteArray.mk #[])))
theorem attrBad_at {ats : List ByteArray} {i : Nat} {a : ByteArray} (h : ats[i]? = some a) : attrBad ats i = (!nameB a || (ats.take i).any (eqT a)) := by unfold attrBad; simp [List.getD, h]
def attrsBad (ats : List ByteArray) : Bool := (List.range ats.length).any (attrBad ats)
def rowsE (last : Int) (m : Nat) : List Row3 → Int
  | [] => 0
  | r :: rs => if r.1 ≤ last then 1 else if r.2.2.length ≠ m then 6 else if r.2.2.any badV then 1 else rowsE r.1 m rs
def tabE (t : T3) : Int := if nameB t.1 = false then 1 else if 16 < t.2.1.length ∨ 1000 < t.2.2.length then 3 else if attrsBad t.2.1 = true then 1 else rowsE 0 t.2.1.length t.2.2
theorem drop_at {α : Type} {l : List α} {k : Nat} {x : α} (h : l[k]? = some x) : l.drop k = x :: l.drop (k + 1) := by
  obtain ⟨hk, rfl⟩ := List.getElem?_eq_some_iff.1 h
  exact List.drop_eq_getElem_cons hk
theorem cells3 {w : World} {a b c : Value} {t : TypeId} (W : World) (h : Below (w.alloc (.cells #[a, b, c] t)).heap.size (w.alloc (.cells #[a, b, c] t)) W) :
    W.cell? ⟨w.heap.size, 0, none⟩ = some a ∧ W.cell? ⟨w.heap.size, 1, none⟩ = some b ∧ W.cell? ⟨w.heap.size, 2, none⟩ = some c :=
  ⟨(h.cell (p := ⟨w.heap.size, 0, none⟩) (by simp)).trans (by simp), (h.cell (p := ⟨w.heap.size, 1, none⟩) (by simp)).trans (by simp), (h.cell (p := ⟨w.heap.size, 2, none⟩) (by simp)).trans (by simp)⟩

set_option maxHeartbeats 1600000 in
theorem tvalid_any (t : T3) (av rv : Value) (w : World) (ht : RdT w av rv t) :
    Calls Try.prog 57 #[.agg #[.string t.1, av, rv]] w fun e w' => e = .returned (.int .i64 (tabE t)) ∧ Below w.heap.size w w' := by
  obtain ⟨nm, ats, rs⟩ := t
  obtain ⟨ha, hr⟩ := ht
  have TE := hid (show tabE (nm, ats, rs) = if nameB nm = false then 1 else if 16 < ats.length ∨ 1000 < rs.length then 3 else if attrsBad ats = true then 1 else rowsE 0 ats.length rs from rfl)
  have hb0 := below_alloc w (.cells #[.string nm, av, rv] 25)
  have C3 := hid (fun W h => cells3 (w := w) (a := .string nm) (b := av) (c := rv) (t := 25) W h)
  have A0 := hid (ha.below hb0)
  have R0 := hid (hr.below hb0)
  obtain ⟨w0, hw0⟩ : ∃ w0 : World, w.alloc (.cells #[.string nm, av, rv] 25) = w0 := ⟨_, rfl⟩
  rw [hw0] at hb0 A0 R0 C3
  have B0 := hid hb0
  have W0 := hid hw0
  clear ha hr hb0 hw0
  have N := hid (isName_any nm w0)
  have NA := hid (fun (a : ByteArray) (W : World) => isName_any a W)
  have CT := hid (fun (xs : List ByteArray) (s : ByteArray) (v : Value) (W : World) (h : RdE encT W v xs) => containsT_any xs s v W h)
  have VV := hid (fun (xs : List V3) (v : Value) (W : World) (h : RdV W v xs) => validValues_any xs v W h)
  obtain ⟨ao, acap, rfl, hal, hac0⟩ := A0.out.split
  have hac : ats.length ≤ acap := by
    obtain ⟨ao', cap', he, h1, -⟩ := A0.out
    cases he; exact h1
  have AC := hid hac0
  obtain ⟨ro, rcap, rfl, hrl, hrc⟩ := RdR.split R0.out
  have RC := hid hrc
  clear hac0 hrc
  have go : ∀ r : Int, tabE (nm, ats, rs) = r → Calls Try.prog 57 #[.agg #[.string nm, .slice ao ats.length acap, .slice ro rs.length rcap]] w fun e w' => e = .returned (.int .i64 r) ∧ Below w.heap.size w w' := by
    intro r hr
    rw [hr] at TE
    clear hr
    obtain ⟨c0, c1, c2⟩ := C3.out w0 (Below.refl _ _)
    cases hn : nameB nm with
    | false =>
      rw [hn] at N TE
      rw [if_pos rfl] at TE
      clear hn
      go_enter Try.func57, Try.ntmps57
      go_wp2_with fail
      rw [W0.out]
      refine N.out.mono ?_
      rintro e w' ⟨rfl, rfl⟩
      go_wp2_with fail
      go_ret
      exact ⟨ret_int TE.out.symm, B0.out⟩
    | true =>
      rw [hn] at N TE
      rw [if_neg (by simp)] at TE
      clear hn
      by_cases h16 : ats.length ≤ 16
      · have d16 : decide ((ats.length : Int) > 16) = false := by simp; omega
        by_cases h1000 : rs.length ≤ 1000
        · have d1000 : decide ((rs.length : Int) > 1000) = false := by simp; omega
          rw [if_neg (by omega)] at TE
          have AB := hid (show attrsBad ats = (List.range ats.length).any (attrBad ats) from rfl)
          go_enter Try.func57, Try.ntmps57
          go_wp2_with fail
          rw [W0.out]
          refine N.out.mono ?_
          rintro e w' ⟨rfl, rfl⟩
          go_wp2_with fail
          go_loop [25] (fun i => ∃ k : Nat, k ≤ ats.length ∧ i = .int .i64 k ∧ Hid (((List.range ats.length).take k).any (attrBad ats) = false)) (fun i => ats.length - (intOf i).toNat)
          case atStart => exact ⟨0, Nat.zero_le _, rfl, hid rfl⟩
          case round =>
            obtain ⟨k, hk, rfl, H⟩ := hrel
            by_cases hlt : k < ats.length
            · obtain ⟨a, ha⟩ := get_some hlt
              obtain ⟨b, off, rfl, hd⟩ := AC.out k a ha
              have e0 : w0.cell? ⟨b, off + k, none⟩ = some (.string a) := hd w0 (Below.refl _ _)
              have AT := hid (attrBad_at ha)
              have RA := hid (range_at hlt)
              have N1 := hid (NA.out a w0)
              have TK := hid (RdE.takeT (k := k) A0.out (by omega))
              have CK := hid (CT.out _ a _ w0 TK.out)
              have BAD := hid (fun h : attrBad ats k = true => show (1 : Int) = r by rw [TE.out, if_pos (by rw [AB.out]; exact any_hit RA.out h)])
              have GOOD := hid (fun h : attrBad ats k = false => none_next RA.out h H.out)
              have k0 : (0 : Int) ≤ (k : Int) := by omega
              have k1 : (k : Int) ≤ (ats.length : Int) := by omega
              have k2 : (k : Int) ≤ (acap : Int) := by omega
              have k3 : k ≤ acap := by omega
              clear hd ha TK
              generalize (ats.take k).any (eqT a) = cb at *
              cases hn : nameB a with
              | false =>
                rw [hn] at N1 AT
                have RF := hid (BAD.out AT.out)
                clear BAD GOOD hn
                go_wp2_with fail
                refine N1.out.mono ?_
                rintro e w' ⟨rfl, rfl⟩
                go_wp2_with fail
                go_ret
                exact ⟨ret_int RF.out, B0.out⟩
              | true =>
                rw [hn] at N1 AT
                clear hn
                cases cb with
                | true =>
                  have RF := hid (BAD.out AT.out)
                  clear BAD GOOD
                  go_wp2_with fail
                  refine N1.out.mono ?_
                  rintro e w' ⟨rfl, rfl⟩
                  go_wp2_with fail
                  refine CK.out.mono ?_
                  rintro e w' ⟨rfl, rfl⟩
                  go_wp2_with fail
                  go_ret
                  exact ⟨ret_int RF.out, B0.out⟩
                | false =>
                  have G := hid (GOOD.out AT.out)
                  clear BAD GOOD
                  go_wp2_with fail
                  refine N1.out.mono ?_
                  rintro e w' ⟨rfl, rfl⟩
                  go_wp2_with fail
                  refine CK.out.mono ?_
                  rintro e w' ⟨rfl, rfl⟩
                  go_wp2_with fail
                  go_round
                  case rel => exact ⟨k + 1, by omega, by go_num, hid G.out⟩
                  case measure => simp [intOf]; omega
            · have HA := hid (any_end H.out (by simpa using hlt))
              have TE2 := hid (show r = rowsE 0 ats.length rs by rw [TE.out, if_neg (by rw [AB.out, HA.out]; simp)])
              go_wp2_with fail
              go_loopw [5, 45] (fun l i wr => ∃ (k : Nat) (L : Int), k ≤ rs.length ∧ i = .int .i64 k ∧ l = .int .i64 L ∧ Hid (r = rowsE L ats.length (rs.drop k)) ∧ Below w0.heap.size w0 wr) (fun _ i _ => rs.length - (intOf i).toNat)
              case atStart => exact ⟨0, 0, Nat.zero_le _, rfl, rfl, hid (by rw [TE2.out]; rfl), Below.refl _ _⟩
              case round =>
                obtain ⟨k, L, hk, rfl, rfl, H2, hnx⟩ := hrel
                have hsz := hnx.size
                by_cases hlt2 : k < rs.length
                · obtain ⟨⟨id, u, vs⟩, hx⟩ := get_some hlt2
                  obtain ⟨⟨b, off, rfl, hd⟩, hvs⟩ := RC.out k _ hx
                  obtain ⟨e0, e1⟩ := hd wr hnx
                  have VS := hid (show RdV wr u vs from hvs wr hnx)
                  obtain ⟨uo, ucap, rfl, -⟩ := RdV.split VS.out
                  have RE := hid (show r = if id ≤ L then 1 else if vs.length ≠ ats.length then 6 else if vs.any badV = true then 1 else rowsE id ats.length (rs.drop (k + 1)) by rw [H2.out, drop_at hx]; rfl)
                  have hb1 := below_alloc wr (.cells #[.int .i64 id, .slice uo vs.length ucap] 67)
                  have NX := hid (hnx.trans (hb1.mono hsz))
                  have VV1 := hid (VV.out vs _ _ (VS.out.below hb1))
                  have f0 : (wr.alloc (.cells #[.int .i64 id, .slice uo vs.length ucap] 67)).cell? ⟨wr.heap.size, 0, none⟩ = some (.int .i64 id) := by simp
                  have f1 : (wr.alloc (.cells #[.int .i64 id, .slice uo vs.length ucap] 67)).cell? ⟨wr.heap.size, 1, none⟩ = some (.slice uo vs.length ucap) := by simp
                  obtain ⟨g0, g1, g2⟩ := C3.out _ NX.out
                  have G1 := g1
                  obtain ⟨w1, hw1⟩ : ∃ w1 : World, wr.alloc (.cells #[.int .i64 id, .slice uo vs.length ucap] 67) = w1 := ⟨_, rfl⟩
                  rw [hw1] at NX VV1 f0 f1 g0 g1 g2
                  have W1 := hid hw1
                  clear hd hvs hx hb1 hw1 hnx c0 c1 c2
                  by_cases hid0 : id ≤ L
                  · have RF := hid (show (1 : Int) = r by rw [RE.out, if_pos hid0])
                    go_wp2_with fail
                    rw [W1.out]
                    go_wp2_with fail
                    go_ret
                    exact ⟨ret_int RF.out, B0.out.trans (NX.out.mono B0.out.size)⟩
                  · have RE2 := hid (show r = if vs.length ≠ ats.length then 6 else if vs.any badV = true then 1 else rowsE id ats.length (rs.drop (k + 1)) by rw [RE.out, if_neg hid0])
                    clear RE
                    by_cases hlen : vs.length = ats.length
                    · have RE3 := hid (show r = if vs.any badV = true then 1 else rowsE id ats.length (rs.drop (k + 1)) by rw [RE2.out, if_neg (by simpa using hlen)])
                      clear RE2
                      rw [hlen] at VV1 f1 G1 W1
                      cases hbv : vs.any badV with
                      | true =>
                        rw [hbv] at VV1 RE3
                        have RF := hid (show (1 : Int) = r by rw [RE3.out, if_pos rfl])
                        clear RE3 hbv
                        go_wp2_with fail
                        rw [W1.out]
                        go_wp2_with fail
                        refine VV1.out.mono ?_
                        rintro e w2 ⟨rfl, hb2⟩
                        have B2 := hid (NX.out.trans (hb2.mono NX.out.size))
                        clear hb2
                        go_wp2_with fail
                        go_ret
                        exact ⟨ret_int RF.out, B0.out.trans (B2.out.mono B0.out.size)⟩
                      | false =>
                        rw [hbv] at VV1 RE3
                        have RF := hid (show r = rowsE id ats.length (rs.drop (k + 1)) by rw [RE3.out, if_neg (by simp)])
                        clear RE3 hbv
                        go_wp2_with fail
                        rw [W1.out]
                        go_wp2_with fail
                        refine VV1.out.mono ?_
                        rintro e w2 ⟨rfl, hb2⟩
                        have B2 := hid (NX.out.trans (hb2.mono NX.out.size))
                        have p0 := (hb2.cell (p := ⟨wr.heap.size, 0, none⟩) (by rw [← W1.out]; simp)).trans f0
                        clear hb2
                        go_wp2_with fail
                        go_roundw
                        case rel => exact ⟨k + 1, id, by omega, by go_num, rfl, hid RF.out, B2.out⟩
                        case measure => simp [intOf]; omega
                    · have RF := hid (show (6 : Int) = r by rw [RE2.out, if_pos hlen])
                      have q1 : ((vs.length : Int) == (ats.length : Int)) = false := by simp; omega
                      have q2 : ¬ (vs.length : Int) = (ats.length : Int) := by omega
                      have q3 : ((vs.length : Int) != (ats.length : Int)) = true := by simp; omega
                      have q4 : (vs.length == ats.length) = false := by simpa using hlen
                      clear RE2
                      go_wp2_with fail
                      rw [W1.out]
                      go_wp2_with fail
                      go_ret
                      exact ⟨ret_int RF.out, B0.out.trans (NX.out.mono B0.out.size)⟩
                · have RF := hid (show (0 : Int) = r by rw [H2.out, List.drop_eq_nil_of_le (by omega)]; rfl)
                  have HN := hid hnx
                  obtain ⟨g0, g1, g2⟩ := C3.out _ hnx
                  clear hnx
                  go_wp2_with fail
                  go_ret
                  exact ⟨ret_int RF.out, B0.out.trans (HN.out.mono B0.out.size)⟩
        · have d1000 : decide ((rs.length : Int) > 1000) = true := by simp; omega
          have RF := hid (show (3 : Int) = r by rw [TE.out, if_pos (by omega)])
          clear TE
          go_enter Try.func57, Try.ntmps57
          go_wp2_with fail
          rw [W0.out]
          refine N.out.mono ?_
          rintro e w' ⟨rfl, rfl⟩
          go_wp2_with fail
          go_ret
          exact ⟨ret_int RF.out, B0.out⟩
      · have d16 : decide ((ats.length : Int) > 16) = true := by simp; omega
        have RF := hid (show (3 : Int) = r by rw [TE.out, if_pos (by omega)])
        clear TE
        go_enter Try.func57, Try.ntmps57
        go_wp2_with fail
        rw [W0.out]
        refine N.out.mono ?_
        rintro e w' ⟨rfl, rfl⟩
        go_wp2_with fail
        go_ret
        exact ⟨ret_int RF.out, B0.out⟩
  exact go _ rfl

end Go.Proofs.Ytkehelplmipenaa
