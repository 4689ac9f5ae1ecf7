/- The walk of agree.counts: a map from the agree sets to the numbers of their pairs. -/
import Derived.Test.YtkehelplmipenaaGTabB
import Derived.Test.YtkehelplmipenaaAgrL
namespace Go.Proofs.Ytkehelplmipenaa
open Go.RowKit

theorem undU32 : Try.prog.underlying 33 = some (.int .u32) := by kernel_rfl
theorem undI64 : Try.prog.underlying 2 = some (.int .i64) := by kernel_rfl
theorem undMapC : Try.prog.underlying 78 = some (.map 33 2) := by kernel_rfl
theorem zeroC (w : World) : (zeroValue 2).run Try.prog w = .ok ((cntElems Try.prog 2 undI64).el 0) w := by kernel_rfl
abbrev OwnC := OwnK (cntElems Try.prog 2 undI64) 0 33
abbrev RngC := RngK (cntElems Try.prog 2 undI64) 0 33
theorem pairsS_take {rs : List Row3} {i : Nat} {r : Row3} (h : rs[i]? = some r) {ps : List S} (hp : ps.Perm (pairsS (rs.take i))) : (ps ++ (rs.take i).map fun q => pairS q r).Perm (pairsS (rs.take (i + 1))) := by
  rw [take_next h]
  exact (List.Perm.append_right _ hp).trans (pairsS_snoc _ _).symm

set_option maxHeartbeats 1600000 in
set_option maxRecDepth 100000 in
theorem counts_any (t : T3) (av rv : Value) (w : World) (ht : RdT w av rv t) (hk : tabE2 t = 0) :
    Calls Try.prog 39 #[.agg #[.string t.1, av, rv]] w fun e w' => ∃ (b : Nat) (ps : List S), e = .returned (.map (some b)) ∧ OwnC w' b ps.length (cntF ps) (memB ps) ∧ ps.length ≤ 40000 ∧ ps.Perm (pairsS t.2.2) ∧ w.heap.size ≤ b ∧ Below w.heap.size w w' := by
  obtain ⟨nm, ats, rs⟩ := t
  obtain ⟨ha, hr⟩ := ht
  obtain ⟨h16, h200, hrows⟩ := tabE2_ok hk
  replace h16 : ats.length ≤ 16 := h16
  replace h200 : rs.length ≤ 200 := h200
  have HR := hid hrows
  have hmm := @run_makeMap Try.prog
  have hb0 := below_alloc w (.cells #[.string nm, av, rv] 25)
  have C3 := hid (fun W h => cells3 (w := w) (a := .string nm) (b := av) (c := rv) (t := 25) W h)
  have R0 := hid (hr.below hb0)
  obtain ⟨w0, hw0⟩ : ∃ w0 : World, w.alloc (.cells #[.string nm, av, rv] 25) = w0 := ⟨_, rfl⟩
  rw [hw0] at hb0 R0 C3
  have B0 := hid hb0
  have W0 := hid hw0
  have hsz0 : w.heap.size ≤ w0.heap.size := hb0.size
  have hs0 : w0.heap.size = w.heap.size + 1 := by rw [← hw0]; simp
  have HS0 := hid hs0
  clear ha hr hb0 hw0 hk hrows hs0
  have RA := hid (fun (i j : Int) (xs ys : List V3) (u v : Value) (W : World) (hu : RdV W u xs) (hv : RdV W v ys) (hl : ys.length = xs.length) (h32 : xs.length ≤ 32) => aset_any i j xs ys u v W hu hv hl h32)
  obtain ⟨ro, rcap, rfl, hrl, hrc⟩ := RdR.split R0.out
  have RC := hid hrc
  clear hrc
  have PT := hid (fun (i : Nat) (r : Row3) (h : rs[i]? = some r) (ps : List S) (hp : ps.Perm (pairsS (rs.take i))) => pairsS_take h hp)
  have hm0 := OwnK.made (E := cntElems Try.prog 2 undI64) (z := 0) (k := 33) (w := w0)
  rw [HS0.out] at hm0
  have hlen : ∀ ps : List S, ∀ i, ps.Perm (pairsS (rs.take i)) → ps.length ≤ 40000 := fun ps i hp => by
    have h1 := hp.length_eq
    have h2 := pairsS_length (rs.take i)
    have h3 : (rs.take i).length ≤ 200 := Nat.le_trans (List.length_take_le' _ _) h200
    have h4 := Nat.mul_le_mul h3 h3
    omega
  have HL := hid hlen
  clear hlen
  have hcap : rs.length ≤ rcap := by
    obtain ⟨⟨ao, cap, e, h1, _⟩, _⟩ := R0.out
    cases e; exact h1
  show Calls _ _ _ _ fun e w' => ∃ (b : Nat) (ps : List S), e = .returned (.map (some b)) ∧ OwnC w' b ps.length (cntF ps) (memB ps) ∧ ps.length ≤ 40000 ∧ ps.Perm (pairsS rs) ∧ w.heap.size ≤ b ∧ Below w.heap.size w w'
  go_enter Try.func39, Try.ntmps39
  go_wp2_with fail
  rw [W0.out]
  go_wp2_with fail
  go_loopw [12] (fun i wr => ∃ (k : Nat) (ps : List S), k ≤ rs.length ∧ i = .int .i64 k ∧ OwnC wr (w.heap.size + 1) ps.length (cntF ps) (memB ps) ∧ Hid (ps.Perm (pairsS (rs.take k))) ∧ Below w0.heap.size w0 wr) (fun i _ => rs.length - (intOf i).toNat)
  case atStart => exact ⟨0, [], Nat.zero_le _, rfl, hm0.congr (fun s => rfl) (fun s => rfl), hid (List.Perm.refl _), below_alloc _ _⟩
  case round =>
    obtain ⟨i, ps0, hk, rfl, hown, HP, hnx⟩ := hrel
    have hsz := hnx.size
    obtain ⟨c0, c1, c2⟩ := C3.out _ hnx
    have i0 : (0 : Int) ≤ (i : Int) := by omega
    by_cases hlt : i < rs.length
    · obtain ⟨⟨rid, ru, rvs⟩, hr⟩ := get_some hlt
      have hpl := HL.out ps0 i HP.out
      have HP2 := hid (PT.out i _ hr ps0 HP.out)
      obtain ⟨⟨b, off, rfl, hd⟩, hvs⟩ := RC.out i _ hr
      have HR1 := hid (HR.out _ (List.mem_of_getElem? hr))
      have VS := hid (fun (W : World) (h : Below w0.heap.size w0 W) => show RdV W ru rvs from hvs W h)
      obtain ⟨uo, ucap, rfl, -⟩ := RdV.split (VS.out wr hnx)
      obtain ⟨wo, rfl⟩ : ∃ wo : World, wo = wr := ⟨_, rfl⟩
      have hbl := hown.lt
      have hba := below_alloc wo (.cells #[.int .i64 rid, .slice uo rvs.length ucap] 67)
      have hown1 := hown.below hba
      have hnx1 := hnx.trans (hba.mono hsz)
      obtain ⟨d0, d1⟩ := hd wo hnx
      have hrc0 : (wo.alloc (.cells #[.int .i64 rid, .slice uo rvs.length ucap] 67)).cell? ⟨wo.heap.size, 0, none⟩ = some (.int .i64 rid) := by simp
      have hrc1 : (wo.alloc (.cells #[.int .i64 rid, .slice uo rvs.length ucap] 67)).cell? ⟨wo.heap.size, 1, none⟩ = some (.slice uo rvs.length ucap) := by simp
      obtain ⟨k0, k1, k2⟩ := C3.out _ hnx1
      have ST := hid (And.intro hown1 (And.intro hnx1 (And.intro hrc0 hrc1)))
      clear hd hvs hr hba hown hnx hown1 hnx1 hrc0 hrc1 HP hsz
      go_wp2_with fail
      go_loopw [22] (fun j wr => ∃ (k : Nat) (ps : List S), k ≤ i ∧ j = .int .i64 k ∧ OwnC wr (w.heap.size + 1) ps.length (cntF ps) (memB ps) ∧ Hid (ps = ps0 ++ ((rs.take i).take k).map fun q => pairS q (rid, Value.slice uo rvs.length ucap, rvs)) ∧ Below w0.heap.size w0 wr ∧ wr.cell? ⟨wo.heap.size, 0, none⟩ = some (.int .i64 rid) ∧ wr.cell? ⟨wo.heap.size, 1, none⟩ = some (.slice uo rvs.length ucap)) (fun j _ => i - (intOf j).toNat)
      case atStart => exact ⟨0, ps0, Nat.zero_le _, rfl, ST.out.1, hid (by simp), ST.out.2.1, ST.out.2.2⟩
      case round =>
        obtain ⟨k, ps, hk2, rfl, hown2, HQ, hnx2, e0, e1⟩ := hrel
        have hsz2 := hnx2.size
        have j0 : (0 : Int) ≤ (k : Int) := by omega
        by_cases hlt2 : k < i
        · obtain ⟨⟨qid, qu, qvs⟩, hq⟩ := get_some (show k < rs.length by omega)
          have hq2 : (rs.take i)[k]? = some (qid, qu, qvs) := by rw [List.getElem?_take_of_lt hlt2, hq]
          have HQ2 := hid (show ps ++ [rowsS qvs rvs qvs.length] = ps0 ++ ((rs.take i).take (k + 1)).map fun q => pairS q (rid, Value.slice uo rvs.length ucap, rvs) by rw [take_next hq2, List.map_append, ← List.append_assoc, ← HQ.out]; rfl)
          have hpsl : ps.length ≤ 40200 := by
            have h := congrArg List.length HQ.out
            simp only [List.length_append, List.length_map, List.length_take] at h
            omega
          have HR2 := hid (HR.out _ (List.mem_of_getElem? hq))
          obtain ⟨⟨b', off', hbb, hd'⟩, hvs'⟩ := RC.out k _ hq
          cases hbb
          have VS2 := hid (fun (W : World) (h : Below w0.heap.size w0 W) => show RdV W qu qvs from hvs' W h)
          obtain ⟨vo, vcap, rfl, -⟩ := RdV.split (VS2.out wr hnx2)
          obtain ⟨f0, f1⟩ := hd' wr hnx2
          have hbq := below_alloc wr (.cells #[.int .i64 qid, .slice vo qvs.length vcap] 67)
          have hnx3 := hnx2.trans (hbq.mono hsz2)
          have CR := hid (RA.out qid rid qvs rvs _ _ _ (VS2.out _ hnx3) (VS.out _ hnx3) (by rw [HR1.out.1, HR2.out.1]) (by rw [HR2.out.1]; exact Nat.le_trans h16 (by decide)))
          have g0 : (wr.alloc (.cells #[.int .i64 qid, .slice vo qvs.length vcap] 67)).cell? ⟨wr.heap.size, 0, none⟩ = some (.int .i64 qid) := by simp
          have g1 : (wr.alloc (.cells #[.int .i64 qid, .slice vo qvs.length vcap] 67)).cell? ⟨wr.heap.size, 1, none⟩ = some (.slice vo qvs.length vcap) := by simp
          have hlt0 := World.block_lt_of_cell? _ _ e0
          have hlt1 : wo.heap.size < wr.heap.size := hlt0
          have E0 := hid (fun (W : World) (hb : Below wr.heap.size wr W) => And.intro ((hb.cell (p := ⟨wo.heap.size, 0, none⟩) hlt1).trans e0) ((hb.cell (p := ⟨wo.heap.size, 1, none⟩) hlt1).trans e1))
          obtain ⟨e0', e1'⟩ := E0.out _ hbq
          have OK2 := hid (hown2.below hbq)
          have NX3 := hid hnx3
          have BQ := hid hbq
          have hcnt : cntF ps (rowsS qvs rvs qvs.length) ≤ 40200 := Nat.le_trans List.count_le_length hpsl
          have U := hid (And.intro (fun t => count_upd ps (rowsS qvs rvs qvs.length) t) (fun t => has_upd ps (rowsS qvs rvs qvs.length) t))
          clear hd' hvs' hq hq2 hown2 hnx3 hbq hlt0 HQ
          generalize cntF ps = g at *
          generalize memB ps = pp at *
          go_wp2_with fail
          refine CR.out.mono ?_
          rintro e w2 ⟨rfl, hb2⟩
          have hb2' := BQ.out.trans (hb2.mono BQ.out.size)
          have OK3 := hid (OK2.out.below hb2)
          have NX4 := hid (NX3.out.trans (hb2.mono NX3.out.size))
          obtain ⟨x0, x1⟩ := E0.out _ hb2'
          have X0 := hid (And.intro x0 x1)
          have hw0lt := OK3.out.lt
          have HV := hid (show Value.int .i64 ((g (rowsS qvs rvs qvs.length) : Int) + 1) = (cntElems Try.prog 2 undI64).el (g (rowsS qvs rvs qvs.length) + 1) by show _ = Value.int .i64 (capN (g (rowsS qvs rvs qvs.length) + 1)); rw [capN_eq (by omega)]; rfl)
          have HG := hid (capN_eq (n := g (rowsS qvs rvs qvs.length)) (by omega))
          have hg0 : (0 : Int) ≤ (g (rowsS qvs rvs qvs.length) : Int) := by omega
          clear hb2 hb2' x0 x1
          generalize rowsS qvs rvs qvs.length = sq at *
          go_wp2_with (first | (at_lookup; refine wpList_mlook (E := cntElems Try.prog 2 undI64) (z := 0) (f := g) (n := ps.length) (b := w.heap.size + 1) (k := 33) rfl _ _ 78 rfl undU32 undMapC (zeroC _) rfl OK3.out.toM sq rfl ?_; show wpList _ _ _ _ (Act.put _ _ (.int .i64 (capN (g sq)))) _; rw [HG.out]) | (at_mapUpdate; refine wpList_kput (E := cntElems Try.prog 2 undI64) rfl _ _ _ 78 rfl undU32 undMapC rfl OK3.out (by unfold maxLen; omega) sq (g sq + 1) rfl HV.out ?_))
          intro w4 hm4 hg4
          have hm5 : OwnC w4 (w.heap.size + 1) (ps ++ [sq]).length (cntF (ps ++ [sq])) (memB (ps ++ [sq])) := by
            have := hm4.congr U.out.1 U.out.2
            rwa [show (ps ++ [sq]).length = ps.length + 1 by simp]
          have hnx4 : Below w0.heap.size w0 w4 := NX4.out.grown hg4 NX4.out.size (fun j hj => by cases hj; exact Nat.le_of_eq HS0.out)
          have hc4 : w4.cell? ⟨wo.heap.size, 0, none⟩ = some (.int .i64 rid) := (hg4.cell_far ⟨wo.heap.size, 0, none⟩ (World.block_lt_of_cell? _ _ X0.out.1) (by intro e; simp at e; omega)).trans X0.out.1
          have hc5 : w4.cell? ⟨wo.heap.size, 1, none⟩ = some (.slice uo rvs.length ucap) := (hg4.cell_far ⟨wo.heap.size, 1, none⟩ (World.block_lt_of_cell? _ _ X0.out.2) (by intro e; simp at e; omega)).trans X0.out.2
          clear hm4 hg4
          go_wp2_with fail
          go_roundw
          case rel => exact ⟨k + 1, ps ++ [sq], by omega, by go_num, hm5, HQ2, hnx4, hc4, hc5⟩
          case measure => simp [intOf]; omega
        · have hkk : k = i := by omega
          have HP3 := hid (show ps.Perm (pairsS (rs.take (i + 1))) by
            have h := HQ.out
            rw [List.take_of_length_le (by rw [List.length_take]; omega)] at h
            rw [h]; exact HP2.out)
          clear HQ hkk
          go_wp2_with fail
          go_roundw
          case rel => exact ⟨i + 1, ps, by omega, by go_num, hown2, HP3, hnx2⟩
          case measure => simp [intOf]; omega
    · have HP3 := hid (show ps0.Perm (pairsS rs) by have h := HP.out; rwa [List.take_of_length_le (by omega)] at h)
      have hpl := HL.out ps0 i HP.out
      have HO := hid hown
      have HN := hid (B0.out.trans (hnx.mono hsz0))
      clear hown hnx HP
      go_wp2_with fail
      go_ret
      exact ⟨_, ps0, rfl, HO.out, hpl, HP3.out, by omega, HN.out⟩

end Go.Proofs.Ytkehelplmipenaa
