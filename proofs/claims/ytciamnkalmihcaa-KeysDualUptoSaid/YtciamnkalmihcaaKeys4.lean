/- The walk of keys' Check. -/
import Derived.Test.YtciamnkalmihcaaKeys3
namespace Go.Proofs.Ytciamnkalmihcaa
open Go.RowKit

theorem validS_compl {n : Int} {m : List S} (h0 : 0 ≤ n) (h16 : n ≤ 16) (hl : m.length ≤ 200) : validS n (compl (fullN n.toNat) m) = 0 := by
  unfold validS
  have e : (compl (fullN n.toNat) m).length = m.length := by unfold compl; simp
  rw [if_neg (by omega), if_neg (by omega), if_neg]
  rw [Bool.not_eq_true, List.any_eq_false]
  intro x hx
  obtain ⟨a, _, rfl⟩ := List.mem_map.1 hx
  have : sub (fullN n.toNat &&& ~~~ a) (fullN n.toNat) := fun i hi hb => by rw [BitVec.getLsbD_and, Bool.and_eq_true] at hb; exact hb.1
  rw [sub_full] at this
  rw [this]; simp
theorem dual_ok {n : Int} {xs l : List S} {d : S} {ok : Bool} (h : DualP n xs l d ok) (hv : validS n xs = 0) (hl : l.length ≤ 20000) : ok = decide (∀ s, s ∈ l ↔ minS xs s = true) := by
  unfold DualP at h
  rw [if_neg (by rw [hv]; omega)] at h
  have am : ∀ s, s ∈ allS xs ↔ minS xs s = true := (allS_ord xs).2
  rcases h with ⟨rfl, _, h⟩ | ⟨rfl, h⟩
  · symm; rw [decide_eq_true_iff]; exact fun s => (h s).trans (am s)
  · symm; rw [decide_eq_false_iff_not]
    intro k
    exact h ((am d).trans (k d).symm)
noncomputable def badK (n : Int) (fs : List F) (s : S) : Bool := !supB n fs s
noncomputable def badA (n : Int) (fs : List F) (s : S) : Bool := supB n fs s || (s >>> n.toNat != 0#32)
theorem cert_bad {n : Int} {fs : List F} {l m : List S} (h : validF n fs ≠ 0 ∨ 200 < m.length) : certB n fs l m = false := by
  unfold certB
  rcases h with h | h
  · rw [decide_eq_false h]; rfl
  · rw [decide_eq_false (show ¬ m.length ≤ 200 by omega)]; simp
theorem badA_eq (n : Int) (fs : List F) (s : S) : (!supB n fs s && decide (sub s (fullN n.toNat))) = !badA n fs s := by
  unfold badA
  have : decide (sub s (fullN n.toNat)) = !(s >>> n.toNat != 0#32) := by rw [Bool.eq_iff_iff, decide_eq_true_iff, sub_full]; simp
  rw [this]; cases supB n fs s <;> simp
theorem all_not {α : Type} (l : List α) (p : α → Bool) : (l.all fun x => !p x) = !l.any p := by
  induction l with
  | nil => rfl
  | cons x l ih => rw [List.any_cons, List.all_cons, ih]; cases p x <;> simp
theorem cert_eq {n : Int} {fs : List F} {l m : List S} (hv : validF n fs = 0) (hl : m.length ≤ 200) : certB n fs l m = (!l.any (badK n fs) && (!m.any (badA n fs) && decide (∀ s, s ∈ l ↔ minS (compl (fullN n.toNat) m) s = true))) := by
  unfold certB
  rw [decide_eq_true hv, decide_eq_true hl]
  have e1 : l.all (supB n fs) = !l.any (badK n fs) := by
    rw [← all_not]; unfold badK; simp
  have e2 : (m.all fun s => !supB n fs s && decide (sub s (fullN n.toNat))) = !m.any (badA n fs) := by
    rw [← all_not]
    congr 1
    funext s
    exact badA_eq n fs s
  rw [e1, e2, Bool.true_and, Bool.true_and, Bool.and_assoc]
theorem compl_next {A : S} {m : List S} {k : Nat} {x : S} (h : m[k]? = some x) : compl A (m.take (k + 1)) = compl A (m.take k) ++ [A &&& ~~~ x] := by
  unfold compl; rw [take_next h, List.map_append]; rfl
abbrev mk (A x : S) : S := A &&& ~~~ x
theorem compl_length (A : S) (m : List S) : (compl A m).length = m.length := by unfold compl; simp

set_option maxHeartbeats 800000 in
theorem kcheck_any (n : Int) (fs : List F) (l m : List S) (v u1 u2 : Value) (w : World) (hv : RdF w v fs) (h1 : RdE enc w u1 l) (h2 : RdE enc w u2 m) (hl : l.length ≤ 20000) :
    Calls Try.prog 33 #[.int .i64 n, v, u1, u2] w fun e w' => e = .returned (.bool (certB n fs l m)) ∧ Below w.heap.size w w' := by
  have V := hid (validF_any n fs v w hv)
  have SK := hid (fun (s : S) (W : World) (h : Below w.heap.size w W) => superkey_any n fs s v W (hv.below h))
  have R1 := hid h1
  obtain ⟨ao, cap, rfl, -⟩ := hv.split
  obtain ⟨lo, lcap, rfl, -, hlc⟩ := h1.split
  obtain ⟨mo, mcap, rfl, hml, hmc⟩ := h2.split
  have LC := hid hlc
  have MC := hid hmc
  clear hv h1 h2 hlc hmc
  by_cases hz : validF n fs = 0
  · by_cases hm : m.length ≤ 200
    · have hd : decide ((m.length : Int) > 200) = false := by simp; omega
      have CE := hid (cert_eq (l := l) hz hm)
      have DK := hid (fun (d : S) (ok : Bool) (h : DualP n (compl (fullN n.toNat) m) l d ok) => dual_ok h (validS_compl (validF_w2 hz).1 (validF_w2 hz).2.1 hm) hl)
      have DU := hid (fun (x y : Value) (W : World) (hx : RdE enc W x (compl (fullN n.toNat) m)) (hy : RdE enc W y l) => dual_any n (compl (fullN n.toNat) m) l x y W hx hy)
      have CN := hid (fun (k : Nat) (x : S) (h : m[k]? = some x) => compl_next (A := fullN n.toNat) h)
      have CL := hid (fun k => compl_length (fullN n.toNat) (m.take k))
      have KB := hid (fun s => show badK n fs s = !supB n fs s from rfl)
      have AB := hid (fun s => show badA n fs s = (supB n fs s || (s >>> n.toNat != 0#32)) from rfl)
      rw [hz] at V
      obtain ⟨h0, h16, -, -⟩ := validF_w2 hz
      obtain ⟨mm, rfl⟩ : ∃ mm : Nat, n = mm := ⟨n.toNat, by omega⟩
      have FU := hid (fun (W : World) => kfull_any mm (by omega) W)
      rw [show (mm : Int).toNat = mm by omega] at CE DK DU CN CL AB
      have g0 : (0 : Int) ≤ (mm : Int) := by omega
      have g1 : (mm : Int) ≤ 32 := by omega
      clear hz h0
      generalize fullN mm = A at *
      generalize badK (mm : Int) fs = bk at *
      generalize badA (mm : Int) fs = ba at *
      generalize supB (mm : Int) fs = sp at *
      have go : ∀ r : Bool, certB (mm : Int) fs l m = r → Calls Try.prog 33 #[.int .i64 (mm : Int), .slice ao fs.length cap, .slice lo l.length lcap, .slice mo m.length mcap] w fun e w' => e = .returned (.bool r) ∧ Below w.heap.size w w' := by
        intro r hr
        rw [hr] at CE
        clear hr
        simp only [enc_eq] at SK FU
        go_enter Try.func33, Try.ntmps33
        go_wp2_with fail
        refine V.out.mono ?_
        rintro e w1 ⟨rfl, hb1⟩
        have B1 := hid hb1
        clear hb1
        go_wp2_with fail
        go_loopw [27] (fun i wr => ∃ k : Nat, k ≤ l.length ∧ i = .int .i64 k ∧ Hid ((l.take k).any bk = false) ∧ Below w.heap.size w wr) (fun i _ => l.length - (intOf i).toNat)
        case atStart => exact ⟨0, Nat.zero_le _, rfl, hid rfl, B1.out⟩
        case round =>
          obtain ⟨k, hk, rfl, H, hnx⟩ := hrel
          by_cases hlt : k < l.length
          · obtain ⟨x, hx⟩ := get_some hlt
            obtain ⟨b, off, rfl, hd1⟩ := LC.out k x hx
            have e0 : wr.cell? ⟨b, off + k, none⟩ = some (.int .u32 (iv x)) := hd1 wr hnx
            have S1 := hid (SK.out x wr hnx)
            have K1 := hid (KB.out x)
            have HX := hid hx
            have HN := hid hnx
            clear hd1 hx hnx
            cases hq : sp x with
            | false =>
              rw [hq] at S1 K1
              have RF := hid (show false = r by rw [CE.out, any_hit HX.out K1.out]; rfl)
              clear hq
              go_wp2_with fail
              refine S1.out.mono ?_
              rintro e w3 ⟨rfl, hb3⟩
              have B3 := hid (HN.out.trans (hb3.mono HN.out.size))
              clear hb3
              go_wp2_with fail
              go_ret
              exact ⟨ret_bool RF.out, B3.out⟩
            | true =>
              rw [hq] at S1 K1
              clear hq
              go_wp2_with fail
              refine S1.out.mono ?_
              rintro e w3 ⟨rfl, hb3⟩
              have B3 := hid (HN.out.trans (hb3.mono HN.out.size))
              clear hb3
              go_wp2_with fail
              go_roundw
              case rel => exact ⟨k + 1, by omega, by go_num, hid (none_next HX.out K1.out H.out), B3.out⟩
              case measure => simp [intOf]; omega
          · have HL := hid (any_end H.out hlt)
            have HN := hid hnx
            clear hnx
            go_wp2_with fail
            go_loopw [11, 39] (fun u i wr => ∃ k : Nat, k ≤ m.length ∧ i = .int .i64 k ∧ wr.ownsRow w.heap.size 24 1 u (compl A (m.take k)).length ((compl A (m.take k)).map enc) ∧ Hid ((m.take k).any ba = false) ∧ Below w.heap.size w wr) (fun _ i _ => m.length - (intOf i).toNat)
            case atStart => exact ⟨0, Nat.zero_le _, rfl, World.ownsRow_nil _ _ _ _, hid rfl, HN.out⟩
            case round =>
              obtain ⟨k, hk, rfl, hown, H, hnx⟩ := hrel
              have hcl : (compl A (m.take k)).length ≤ k := by rw [CL.out]; simp; omega
              by_cases hlt : k < m.length
              · obtain ⟨x, hx⟩ := get_some hlt
                obtain ⟨b, off, rfl, hd1⟩ := MC.out k x hx
                have e0 : wr.cell? ⟨b, off + k, none⟩ = some (.int .u32 (iv x)) := hd1 wr hnx
                have S1 := hid (SK.out x wr hnx)
                have A1 := hid (AB.out x)
                have N1 := hid (CN.out k x hx)
                have HX := hid hx
                have HN := hid hnx
                have HO := hid hown
                clear hd1 hx hnx hown
                generalize compl A (m.take k) = out at *
                cases hs : (x >>> mm != 0#32) with
                | true =>
                  have RF := hid (show false = r by rw [CE.out, any_hit HX.out (by rw [A1.out, hs]; simp)]; simp)
                  go_wp2_with fail
                  go_ret
                  exact ⟨ret_bool RF.out, HN.out⟩
                | false =>
                  rw [hs] at A1
                  cases hq : sp x with
                  | true =>
                    rw [hq] at S1 A1
                    have RF := hid (show false = r by rw [CE.out, any_hit HX.out A1.out]; simp)
                    clear hq
                    go_wp2_with fail
                    refine S1.out.mono ?_
                    rintro e w3 ⟨rfl, hb3⟩
                    have B3 := hid (HN.out.trans (hb3.mono HN.out.size))
                    clear hb3
                    go_wp2_with fail
                    go_ret
                    exact ⟨ret_bool RF.out, B3.out⟩
                  | false =>
                    rw [hq] at S1 A1
                    clear hq
                    go_wp2_with fail
                    refine S1.out.mono ?_
                    rintro e w3 ⟨rfl, hb3⟩
                    have hnx3 := HN.out.trans (hb3.mono HN.out.size)
                    have hown3 := own_below HO.out hb3
                    have hs3 := hnx3.size
                    clear hb3
                    go_wp2_with fail
                    refine (FU.out _).mono ?_
                    rintro e w' ⟨rfl, rfl⟩
                    go_wp2_with (at_builtin; refine wpList_push rfl _ _ 34 rfl w.heap.size 24 (.int .u32 0) 4 undSets infoSet rfl (by decide) enc (fun _ => rfl) _ out rfl (hown3.alloc _) ⟨w3.heap.size, 0, none⟩ (mk A x) rfl cell_new (by omega) (by simp; omega) ?_)
                    intro v' w4 hown' hgrow
                    have hb4 := below_push hnx3 hs3 hown3 hgrow
                    clear hgrow hown3 hnx3 e0
                    go_wp2_with fail
                    go_roundw
                    case rel => exact ⟨k + 1, by omega, by go_num, by rw [N1.out]; simpa using hown', hid (none_next HX.out A1.out H.out), hb4⟩
                    case measure => simp [intOf]; omega
              · have HM := hid (any_end H.out hlt)
                rw [take_all hlt] at hown hcl
                have RR := hid (show r = decide (∀ s, s ∈ l ↔ minS (compl A m) s = true) by rw [CE.out, HL.out, HM.out]; rfl)
                have RE := hid (RdE.of_owns hown (by omega))
                have RL := hid (R1.out.below hnx)
                have HN := hid hnx
                clear hown hnx
                go_wp2_with fail
                refine (DU.out _ _ _ RE.out RL.out).mono ?_
                rintro e w5 ⟨⟨d, ok, rfl, hdp⟩, hb5⟩
                have B5 := hid (HN.out.trans (hb5.mono HN.out.size))
                have OK := hid ((DK.out d ok hdp).trans RR.out.symm)
                clear hb5 hdp
                go_wp2_with fail
                go_ret
                exact ⟨ret_bool OK.out, B5.out⟩
      exact go _ rfl
    · have E := hid (cert_bad (n := n) (fs := fs) (l := l) (.inr (show 200 < m.length by omega)))
      rw [E.out]
      have hd : decide ((m.length : Int) > 200) = true := by simp; omega
      rw [hz] at V
      clear hz E
      go_enter Try.func33, Try.ntmps33
      go_wp2_with fail
      refine V.out.mono ?_
      rintro e w1 ⟨rfl, hb1⟩
      have B1 := hid hb1
      clear hb1
      go_wp2_with fail
      go_ret
      exact ⟨rfl, B1.out⟩
  · have E := hid (cert_bad (n := n) (fs := fs) (l := l) (m := m) (.inl hz))
    rw [E.out]
    have hq : (validF n fs != 0) = true := by simpa using hz
    clear hz E
    generalize validF n fs = r at *
    go_enter Try.func33, Try.ntmps33
    go_wp2_with fail
    refine V.out.mono ?_
    rintro e w1 ⟨rfl, hb1⟩
    have B1 := hid hb1
    clear hb1
    go_wp2_with fail
    go_ret
    exact ⟨rfl, B1.out⟩

end Go.Proofs.Ytciamnkalmihcaa
