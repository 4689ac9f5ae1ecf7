/- The walks of cover's Minimal, Canonical, Redundant, Extraneous and IsMinimal. -/
import Derived.Test.YtmlbmdcmedglaaaDoorMerge
import Derived.Test.YtmlbmdcmedglaaaDoorCompare
namespace Go.Proofs.YtmlbmdcmedglaaaDoor
open Go.RowKit

theorem minF_length (fs : List F) : (minF fs).length ≤ 32 * fs.length := by
  have h1 := dropS_length _ (onceF (trimF (splitF fs) (splitF fs).length)) 0 (Nat.le_refl _)
  have h2 := onceF_length (trimF (splitF fs) (splitF fs).length)
  have h3 := trimF_length (splitF fs) (splitF fs).length
  have h4 : (splitF fs).length ≤ 32 * fs.length := Nat.le_trans (onceF_length _) (flatSplit_length _)
  unfold minF; omega
theorem valid_len {n : Int} {fs : List F} (h : validF n fs = 0) : fs.length ≤ 64 := by
  unfold validF at h
  by_cases h1 : n < 0 ∨ 16 < n
  · rw [if_pos h1] at h; cases h
  · rw [if_neg h1] at h
    by_cases h2 : 64 < fs.length
    · rw [if_pos h2] at h; cases h
    · omega
/-- What Minimal gives: the minimal cover, or nothing. -/
noncomputable def resM (n : Int) (fs : List F) : List F := if validF n fs = 0 then minF fs else []
theorem resM_length (n : Int) (fs : List F) : (resM n fs).length ≤ 2048 := by
  unfold resM; split
  · rename_i h; have := minF_length fs; have := valid_len h; omega
  · simp

theorem cminimal_any (n : Int) (fs : List F) (v : Value) (w : World) (hT : Tab w) (hv : RdF w v fs) :
    Calls Tryd.prog 25 #[.int .i64 n, v] w fun e w' => ∃ v', e = .returned (.tuple #[v', .int .i64 (validF n fs)]) ∧ w'.ownsRow w.heap.size 30 2 v' (resM n fs).length ((resM n fs).flatMap cF) ∧ Below w.heap.size w w' := by
  have V := hid (validF_any n fs v w hv)
  cases hq : (validF n fs != 0) with
  | true =>
    have hr : resM n fs = [] := by unfold resM; rw [if_neg (by simpa using hq)]
    rw [hr]
    obtain ⟨ao, cap, rfl⟩ := hv.form
    clear hv hr
    generalize validF n fs = r at *
    go_enter Tryd.func25, Tryd.ntmps25
    go_wp2_with fail
    refine (V.out).mono ?_
    rintro e w1 ⟨rfl, hb1⟩
    have B1 := hid hb1
    clear hb1
    go_wp2_with fail
    go_ret2
    exact ⟨_, rfl, World.ownsRow_nil _ _ _ _, B1.out⟩
  | false =>
    have hz : validF n fs = 0 := by simpa using hq
    have hr : resM n fs = minF fs := by unfold resM; rw [if_pos hz]
    rw [hr, hz]
    rw [hz] at V
    have hlen := valid_len hz
    have M := hid (fun (W : World) (h : Below w.heap.size w W) => minimal_any fs v W (hT.below h) (hv.below h) (by omega))
    obtain ⟨ao, cap, rfl⟩ := hv.form
    clear hv hr hz hq
    go_enter Tryd.func25, Tryd.ntmps25
    go_wp2_with fail
    refine (V.out).mono ?_
    rintro e w1 ⟨rfl, hb1⟩
    have B1 := hid hb1
    clear hb1
    go_wp2_with fail
    refine (M.out _ B1.out).mono ?_
    rintro e w2 ⟨v2, rfl, ho2, hb2⟩
    have B2 := hid (B1.out.trans (hb2.mono B1.out.size))
    have O2 := hid (own_mono ho2 B1.out.size)
    clear ho2 hb2
    go_wp2_with fail
    go_ret2
    exact ⟨_, rfl, O2.out, B2.out⟩

theorem canonical_any (n : Int) (fs : List F) (v : Value) (w : World) (hT : Tab w) (hv : RdF w v fs) :
    Calls Tryd.prog 27 #[.int .i64 n, v] w fun e w' => ∃ v', e = .returned (.tuple #[v', .int .i64 (validF n fs)]) ∧ w'.ownsRow w.heap.size 30 2 v' (mergeF (resM n fs)).length ((mergeF (resM n fs)).flatMap cF) ∧ Below w.heap.size w w' := by
  have M := hid (cminimal_any n fs v w hT hv)
  have ML := resM_length n fs
  have MG := hid (fun (u : Value) (W : World) (h : RdF W u (resM n fs)) => merge_any (resM n fs) u W h (by omega))
  obtain ⟨ao, cap, rfl⟩ := hv.form
  clear hv hT
  generalize resM n fs = gs at *
  generalize validF n fs = r at *
  go_enter Tryd.func27, Tryd.ntmps27
  go_wp2_with fail
  refine M.out.mono ?_
  rintro e w1 ⟨v1, rfl, ho1, hb1⟩
  have B1 := hid hb1
  have R1 := hid (RdC.of_owns cF_length ho1 (by omega))
  clear ho1 hb1
  go_wp2_with fail
  refine (MG.out _ _ R1.out).mono ?_
  rintro e w2 ⟨v2, rfl, ho2, hb2⟩
  have B2 := hid (B1.out.trans (hb2.mono B1.out.size))
  have O2 := hid (own_mono ho2 B1.out.size)
  clear ho2 hb2
  go_wp2_with fail
  go_ret2
  exact ⟨_, rfl, O2.out, B2.out⟩

/-- The redundant dependencies. -/
noncomputable def redI (fs : List F) : List Nat := (List.range fs.length).filter (redB fs)
theorem range_next {n k : Nat} (h : k < n) : (List.range n)[k]? = some k := by rw [List.getElem?_range h]
theorem redundants_any (fs : List F) (v : Value) (w : World) (hv : RdF w v fs) (hl : fs.length < 1099511627776) :
    Calls Tryd.prog 34 #[v] w fun e w' => ∃ v', e = .returned v' ∧ w'.ownsRow w.heap.size 3 1 v' (redI fs).length ((redI fs).map encI) ∧ Below w.heap.size w w' := by
  have C := hid (fun (i : Nat) (hi : i < fs.length) (W : World) (h : Below w.heap.size w W) => redundant_any fs i hi v W (hv.below h) hl)
  obtain ⟨ao, cap, rfl⟩ := hv.form
  clear hv
  go_enter Tryd.func34, Tryd.ntmps34
  go_wp2_with fail
  go_loopw [3, 7] (fun o i wr => ∃ k : Nat, k ≤ fs.length ∧ i = .int .i64 k ∧ wr.ownsRow w.heap.size 3 1 o (((List.range fs.length).take k).filter (redB fs)).length ((((List.range fs.length).take k).filter (redB fs)).map encI) ∧ Below w.heap.size w wr) (fun _ i _ => fs.length - (intOf i).toNat)
  case atStart => exact ⟨0, Nat.zero_le _, rfl, World.ownsRow_nil _ _ _ _, Below.refl _ _⟩
  case round =>
    obtain ⟨k, hk, rfl, hown, hnx⟩ := hrel
    have hsz := hnx.size
    have hfl : (((List.range fs.length).take k).filter (redB fs)).length ≤ k := Nat.le_trans (List.length_filter_le _ _) (by simp; omega)
    by_cases hlt : k < fs.length
    · have FN := hid (filter_next (range_next hlt) (redB fs))
      have C1 := hid (C.out k hlt wr hnx)
      generalize ((List.range fs.length).take k).filter (redB fs) = zs at *
      cases hq : redB fs k with
      | true =>
        rw [hq] at C1
        have FN2 := hid (FN.out.trans (by rw [if_pos hq]))
        clear FN hq
        go_wp2_with fail
        refine C1.out.mono ?_
        rintro e w3 ⟨rfl, hb3⟩
        have hown3 := own_below hown hb3
        have hnx3 := hnx.trans (hb3.mono hnx.size)
        have hsz3 := hnx3.size
        clear hb3 hown hnx
        go_wp2_with (at_builtin; refine wpList_push rfl _ _ 47 rfl w.heap.size 3 (.int .i64 0) 8 undInts infoInt rfl (by decide) encI (fun _ => rfl) _ zs rfl (hown3.alloc _) ⟨w3.heap.size, 0, none⟩ k rfl cell_new (by omega) (by simp; omega) ?_)
        intro v' w4 hown' hgrow
        have hb4 := below_push hnx3 hsz3 hown3 hgrow
        clear hgrow hown3 hnx3
        go_wp2_with fail
        go_roundw
        case rel => exact ⟨k + 1, by omega, by go_num, by rw [FN2.out]; simpa using hown', hb4⟩
        case measure => simp [intOf]; omega
      | false =>
        rw [hq] at C1
        have FN2 := hid (FN.out.trans (by rw [if_neg (by simp [hq]), List.append_nil]))
        clear FN hq
        go_wp2_with fail
        refine C1.out.mono ?_
        rintro e w3 ⟨rfl, hb3⟩
        have hown3 := own_below hown hb3
        have hnx3 := hnx.trans (hb3.mono hnx.size)
        clear hb3 hown hnx
        go_wp2_with fail
        go_roundw
        case rel => exact ⟨k + 1, by omega, by go_num, by rw [FN2.out]; exact hown3, hnx3⟩
        case measure => simp [intOf]; omega
    · rw [List.take_of_length_le (by simp; omega)] at hown
      go_wp2_with fail
      go_ret
      exact ⟨_, rfl, hown, hnx⟩

/-- The superfluous attributes of a left side. -/
noncomputable def extAdd (l : List F) (x : F) (s : S) (a : Nat) : S := if extrB l x a then s ||| bit a else s
noncomputable def extSet (l : List F) (x : F) : S := (memN x.1 32).foldl (extAdd l x) 0#32
theorem extFold_next {l : List F} {x : F} {ms : List Nat} {j a : Nat} (h : ms[j]? = some a) : (ms.take (j + 1)).foldl (extAdd l x) 0#32 = extAdd l x ((ms.take j).foldl (extAdd l x) 0#32) a := by rw [take_next h, List.foldl_append]; rfl
/-- What Extraneous gives. -/
noncomputable def exS (fs : List F) (i : Int) : S := if i < 0 ∨ (fs.length : Int) ≤ i then 0#32 else extSet fs (fs.getD i.toNat (0#32, 0#32))
def exE (fs : List F) (i : Int) : Int := if i < 0 ∨ (fs.length : Int) ≤ i then 7 else 0
theorem exS_at {fs : List F} {i : Nat} {x : F} (h : fs[i]? = some x) : exS fs i = extSet fs x := by
  have := (List.getElem?_eq_some_iff.1 h).1
  unfold exS; rw [if_neg (by omega)]; simp [List.getD, h]

set_option maxHeartbeats 800000 in
theorem extraneousS_any (fs : List F) (i : Int) (v : Value) (w : World) (hT : Tab w) (hv : RdF w v fs) :
    Calls Tryd.prog 36 #[v, .int .i64 i] w fun e w' => e = .returned (.tuple #[enc (exS fs i), .int .i64 (exE fs i)]) ∧ Below w.heap.size w w' := by
  have ME := hid (fun (s : S) (W : World) (h : Below w.heap.size w W) => amembers_any s W (hT.below h))
  have EX := hid (fun (x : F) (a : Nat) (ha : a < 32) (W : World) (h : Below w.heap.size w W) => extraneous_any fs x a ha v W (hv.below h))
  obtain ⟨ao, cap, rfl, hcl, hc⟩ := hv.split
  clear hv hT
  by_cases hb : i < 0 ∨ (fs.length : Int) ≤ i
  · have e1 : exS fs i = 0#32 := by unfold exS; rw [if_pos hb]
    have e2 : exE fs i = 7 := by unfold exE; rw [if_pos hb]
    rw [e1, e2]
    clear e1 e2 hc
    rcases hb with h0 | h1
    · go_enter Tryd.func36, Tryd.ntmps36
      go_wp2_with fail
      go_ret2
      exact ⟨rfl, Below.refl _ _⟩
    · have h0 : ¬ i < 0 := by omega
      go_enter Tryd.func36, Tryd.ntmps36
      go_wp2_with fail
      go_ret2
      exact ⟨rfl, Below.refl _ _⟩
  · obtain ⟨m, rfl⟩ : ∃ m : Nat, i = m := ⟨i.toNat, by omega⟩
    have hm : m < fs.length := by omega
    obtain ⟨x, hx⟩ := get_some hm
    rw [exS_at hx, show exE fs m = 0 by unfold exE; rw [if_neg hb]]
    obtain ⟨b, off, rfl, hfc⟩ := hc m x hx
    have FC := hid hfc
    have hg : decide ((m : Int) < 0) = false := by simp
    have hg2 : decide ((m : Int) ≥ (fs.length : Int)) = false := by simp; omega
    have m0 : (0 : Int) ≤ (m : Int) := by omega
    have m1 : (m : Int) < (fs.length : Int) := by omega
    have EF := hid (show extSet fs x = (memN x.1 32).foldl (extAdd fs x) 0#32 from rfl)
    have hmn := memN_length x.1 32
    have HML := hid (fun a (ha : a ∈ memN x.1 32) => (mem_memN.1 ha).1)
    obtain ⟨e0, e1⟩ := hfc w (Below.refl _ _)
    have M := hid (ME.out x.1 w (Below.refl _ _))
    have EX1 := hid (EX.out x)
    have EA := hid (fun (s : S) (a : Nat) (h : extrB fs x a = true) => show extAdd fs x s a = s ||| bit a by unfold extAdd; rw [if_pos h])
    have EB := hid (fun (s : S) (a : Nat) (h : extrB fs x a = false) => show extAdd fs x s a = s by unfold extAdd; rw [if_neg (by simp [h])])
    have XN := hid (fun (j a : Nat) (h : (memN x.1 32)[j]? = some a) => extFold_next (l := fs) (x := x) h)
    rw [EF.out]
    clear hfc hx hc hb hm EX ME EF
    generalize memN x.1 32 = ms at *
    generalize extAdd fs x = ad at *
    simp only [enc_eq] at M EX1 ⊢
    go_enter Tryd.func36, Tryd.ntmps36
    go_wp2_with fail
    refine M.out.mono ?_
    rintro e w2 ⟨v2, rfl, ho2, hb2⟩
    have B2 := hid hb2
    have R2 := hid (RdE.of_owns ho2 (by omega))
    obtain ⟨mo, mcap, rfl, -, hmc⟩ := R2.out.split
    have MC := hid hmc
    clear ho2 hb2 hmc e0 e1
    go_wp2_with fail
    have hs2 := B2.out.size
    go_loopw [6, 24] (fun u i wr => ∃ j : Nat, j ≤ ms.length ∧ i = .int .i64 j ∧ u = .int .u32 (iv ((ms.take j).foldl ad 0#32)) ∧ Below w2.heap.size w2 wr) (fun _ i _ => ms.length - (intOf i).toNat)
    case atStart => exact ⟨0, Nat.zero_le _, rfl, rfl, Below.refl _ _⟩
    case round =>
      obtain ⟨j, hj, rfl, rfl, hnx⟩ := hrel
      by_cases hjl : j < ms.length
      · obtain ⟨a, ha⟩ := get_some hjl
        have ha32 := HML.out a (List.mem_of_getElem? ha)
        obtain ⟨gm, goff, rfl, hmd⟩ := MC.out j a ha
        have hem : wr.cell? ⟨gm, goff + j, none⟩ = some (.int .i64 (a : Int)) := hmd wr hnx
        have N := hid (XN.out j a ha)
        have BW := hid (B2.out.trans (hnx.mono hs2))
        obtain ⟨e0, e1⟩ := FC.out wr BW.out
        have E := hid (EX1.out a ha32 wr BW.out)
        have a0 : (0 : Int) ≤ (a : Int) := by omega
        clear hmd ha
        generalize (ms.take j).foldl ad 0#32 = s at *
        cases hq : extrB fs x a with
        | true =>
          rw [hq] at E
          have N2 := hid (N.out.trans (EA.out s a hq))
          clear hq N
          go_wp2_with fail
          refine E.out.mono ?_
          rintro e w3 ⟨rfl, hb3⟩
          have hn3 := hnx.trans (hb3.mono hnx.size)
          clear hb3 hnx hem e0 e1
          go_wp2_with fail
          go_roundw
          case rel => exact ⟨j + 1, by omega, by go_num, by rw [N2.out]; rfl, hn3⟩
          case measure => simp [intOf]; omega
        | false =>
          rw [hq] at E
          have N2 := hid (N.out.trans (EB.out s a hq))
          clear hq N
          go_wp2_with fail
          refine E.out.mono ?_
          rintro e w3 ⟨rfl, hb3⟩
          have hn3 := hnx.trans (hb3.mono hnx.size)
          clear hb3 hnx hem e0 e1
          go_wp2_with fail
          go_roundw
          case rel => exact ⟨j + 1, by omega, by go_num, by rw [N2.out], hn3⟩
          case measure => simp [intOf]; omega
      · rw [take_all hjl]
        have BB := hid (B2.out.trans (hnx.mono hs2))
        clear hnx XN
        obtain ⟨s, hs⟩ : ∃ s, ms.foldl ad 0#32 = s := ⟨_, rfl⟩
        rw [hs]
        have HS := hid hs
        clear hs
        go_wp2_with fail
        go_ret2
        exact ⟨by rw [HS.out]; rfl, BB.out⟩

end Go.Proofs.YtmlbmdcmedglaaaDoor
