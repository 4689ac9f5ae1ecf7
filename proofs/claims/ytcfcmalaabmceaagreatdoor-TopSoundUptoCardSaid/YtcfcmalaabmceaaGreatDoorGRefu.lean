/- Texts that belong together, in one file. -/
import Derived.Test.YtcfcmalaabmceaaGreatDoorGFdmA
import Derived.Test.YtcfcmalaabmceaaGreatDoorGTopA
import Derived.Test.YtcfcmalaabmceaaGreatDoorGFd
import Derived.Test.YtcfcmalaabmceaaGreatDoorAfter
import Derived.Deep.RegionHeld3
/- Plain laws of refutation: the table of two rows that differ outside a closed set. No program. -/
namespace Go.Proofs.YtcfcmalaabmceaaGreatDoor
open Go.RowKit
set_option linter.unusedVariables false


end Go.Proofs.YtcfcmalaabmceaaGreatDoor


/- The walk of refute's within. -/
namespace Go.Proofs.YtcfcmalaabmceaaGreatDoor
open Go.RowKit
set_option linter.unusedVariables false

theorem rwithin_any (n : Nat) (s : S) (w : World) (hn : n ≤ 16) : Calls Tryz.prog 38 #[.int .i64 (n : Int), .int .u32 (iv s)] w fun e w' => e = .returned (.bool (shrOk s n)) ∧ w = w' := by
  have a0 : (0 : Int) ≤ (n : Int) := by omega
  have a1 : (n : Int) ≤ 16 := by omega
  have a2 : (n : Int) < 64 := by omega
  clear hn
  go_enter Tryz.func38, Tryz.ntmps38
  go_wp2_with fail
  go_ret
  exact ⟨ret_bool (shr64 s n), rfl⟩

end Go.Proofs.YtcfcmalaabmceaaGreatDoor


/- The walk of refute.build (genref2.py prints this out of TopN). -/
namespace Go.Proofs.YtcfcmalaabmceaaGreatDoor
open Go.RowKit
set_option linter.unusedVariables false
set_option linter.unusedSimpArgs false

/-- The values of a row: the bits of a set. -/
def bitVs (j : Nat) (s : S) : List V3 := (List.range j).map fun i => ((1, iv (s >>> i &&& 1#32), ByteArray.mk #[]) : V3)
theorem bitVs_length (j : Nat) (s : S) : (bitVs j s).length = j := by unfold bitVs; simp
theorem bitVs_next (j : Nat) (s : S) : bitVs (j + 1) s = bitVs j s ++ [((1, iv (s >>> j &&& 1#32), ByteArray.mk #[]) : V3)] := by unfold bitVs; rw [List.range_succ, List.map_append]; rfl
def bitRs (m : Nat) (l : List S) : List (Int × List V3) := l.mapIdx fun k s => ((k : Int) + 1, bitVs m s)
/-- What build leaves. -/
def BldP (m : Nat) (l : List S) (w : World) (e : Ending) (w' : World) : Prop := ∃ (av tv : Value) (rs : List Row3), e = .returned (.agg #[.string (ByteArray.mk #[116]), av, tv]) ∧ RdT w' av tv (armT m rs) ∧ rs.map (fun r => (r.1, r.2.2)) = bitRs m l ∧ (∀ j, j < w.heap.size → FarV av (some j) ∧ FarV tv (some j) ∧ ∀ r ∈ rs, FarV r.2.1 (some j)) ∧ Below w.heap.size w w'

set_option maxHeartbeats 3200000 in
set_option maxRecDepth 100000 in
theorem rbuild_any (m : Nat) (l : List S) (v : Value) (w : World) (hv : RdE enc w v l) (hm : m ≤ 6) (hl : l.length ≤ 64) :
    Calls Tryz.prog 39 #[.int .i64 (m : Int), v] w (BldP m l w) := by
  have hb0 := below_alloc w (.cells #[.string (ByteArray.mk #[]), .slice none 0 0, .slice none 0 0] 35)
  have Z3 := hid (fun (W : World) (h : Below (w.alloc (.cells #[.string (ByteArray.mk #[]), .slice none 0 0, .slice none 0 0] 35)).heap.size (w.alloc (.cells #[.string (ByteArray.mk #[]), .slice none 0 0, .slice none 0 0] 35)) W) => And.intro (cells3 (w := w) (a := .string (ByteArray.mk #[])) (b := .slice none 0 0) (c := .slice none 0 0) (t := 35) W h) (show ∀ i : Nat, W.frozen? ⟨w.heap.size, i, none⟩ = false from fun i => (h.frozen (p := ⟨w.heap.size, i, none⟩) (by simp)).trans (by simp)))
  have hs0 : (w.alloc (.cells #[.string (ByteArray.mk #[]), .slice none 0 0, .slice none 0 0] 35)).heap.size = w.heap.size + 1 := by simp
  have HV := hid (fun (W : World) (h : Below w.heap.size w W) => hv.below h)
  have LL := hid hl
  obtain ⟨io, icap, rfl, -⟩ := hv.split
  obtain ⟨w1, hw1⟩ : ∃ w1 : World, w.alloc (.cells #[.string (ByteArray.mk #[]), .slice none 0 0, .slice none 0 0] 35) = w1 := ⟨_, rfl⟩
  rw [hw1] at hb0 Z3 hs0
  have B0 := hid hb0
  have W0 := hid hw1
  have HS0 := hid hs0
  have hsz0 := hb0.size
  have HM := hid hm
  have n0 : (0 : Int) ≤ (m : Int) := by omega
  have n6 : (m : Int) ≤ 6 := by omega
  have l64 : (l.length : Int) ≤ 64 := by omega
  have hbt := below_alloc w1 (.cells #[.string (ByteArray.mk #[116]), .slice none 0 0, .slice none 0 0] 35)
  have T3' := cells3 (w := w1) (a := .string (ByteArray.mk #[116])) (b := .slice none 0 0) (c := .slice none 0 0) (t := 35) _ (Below.refl _ _)
  have hf1 : (w1.alloc (.cells #[.string (ByteArray.mk #[116]), .slice none 0 0, .slice none 0 0] 35)).frozen? ⟨w1.heap.size, 1, none⟩ = false := by simp
  have hf2 : (w1.alloc (.cells #[.string (ByteArray.mk #[116]), .slice none 0 0, .slice none 0 0] 35)).frozen? ⟨w1.heap.size, 2, none⟩ = false := by simp
  have ST := hid (And.intro T3' (And.intro hf1 (And.intro hf2 hbt)))
  clear hw1 hs0 hv hl hbt T3' hf1 hf2 hb0
  obtain ⟨tb, htb⟩ : ∃ tb, w1.heap.size = tb := ⟨_, rfl⟩
  have HTB := hid htb
  rw [HTB.out] at ST
  clear htb
  go_enter Tryz.func39, Tryz.ntmps39
  go_upto_region 1 with fail
  rw [W0.out]
  go_wp2_with fail
  try rw [HTB.out]
  go_loopw [13] (fun i wr => ∃ (k : Nat) (av : Value), k ≤ m ∧ i = .int .i64 k ∧ (wr.cell? ⟨tb, 0, none⟩ = some (.string (ByteArray.mk #[116])) ∧ wr.cell? ⟨tb, 1, none⟩ = some av ∧ wr.cell? ⟨tb, 2, none⟩ = some (.slice none 0 0)) ∧ (wr.frozen? ⟨tb, 1, none⟩ = false ∧ wr.frozen? ⟨tb, 2, none⟩ = false) ∧ wr.ownsRow (tb + 1) 9 1 av (nameN k).length ((nameN k).map encT) ∧ Below tb w1 wr) (fun i _ => m - (intOf i).toNat)
  case atStart => exact ⟨0, _, Nat.zero_le _, rfl, ST.out.1, ⟨ST.out.2.1, ST.out.2.2.1⟩, World.ownsRow_nil _ _ _ _, by rw [← HTB.out]; exact HTB.out ▸ ST.out.2.2.2⟩
  case round =>
    obtain ⟨k, av, hk, rfl, ⟨t0, t1, t2⟩, ⟨tf1, tf2⟩, hown, hnx⟩ := hrel
    have hso : tb < wr.heap.size := World.block_lt_of_cell? _ _ t0
    have hnl : (nameN k).length = k := nameN_length (by omega)
    have j0 : (0 : Int) ≤ (k : Int) := by omega
    by_cases hlt : k < m
    · have j5 : (k : Int) ≤ 5 := by omega
      have NN := hid (name_next (show k < 6 by omega))
      have hw1 : IntKind.i32.wrap (97 + (k : Int)) = 97 + (k : Int) := i32_small (by omega)
      have HNE := hid (show some tb ≠ av.ownBlock from fun e => Nat.not_succ_le_self _ (hown.lt _ e.symm).1)
      have HO := hid hown
      have HNX := hid hnx
      have HNL := hid (show (nameN k).length ≤ 8 by omega)
      have TT := hid (And.intro t0 (And.intro t1 (And.intro t2 (And.intro tf1 tf2))))
      have HLT := hid hlt
      clear hown hnx hnl hlt
      go_wp2_with (at_builtin; refine wpList_pushC rfl _ _ 32 rfl (tb + 1) 9 (.string (ByteArray.mk #[])) 1 16 undStrs infoStr rfl (by decide) (by decide) cT (fun _ => rfl) cT_one _ (nameN k) rfl ((show wr.ownsRow (tb + 1) 9 1 av (nameN k).length ((nameN k).flatMap cT) by rw [show (nameN k).flatMap cT = (nameN k).map encT from flat_one _ _]; exact HO.out).alloc _) ⟨wr.heap.size, 0, none⟩ (Utf8.encode (97 + (k : Int))) rfl (cells_newT wr _) (by have := HNL.out; omega) (by simp; omega) ?_)
      intro v2 w2 hown2' hg2
      have hown2 : w2.ownsRow (tb + 1) 9 1 v2 (nameN (k + 1)).length ((nameN (k + 1)).map encT) := by rw [NN.out, ← show (nameN k ++ [Utf8.encode (97 + (k : Int))]).flatMap cT = _ from flat_one _ _]; simpa using hown2'
      have NL2 := hid (show (nameN (k + 1)).length ≤ 8 by rw [NN.out, List.length_append, List.length_singleton]; have := nameN_length (show k ≤ 8 by omega); omega)
      clear hown2'
      obtain ⟨ats, hats⟩ : ∃ ats, nameN (k + 1) = ats := ⟨_, rfl⟩
      have HAT := hid hats
      rw [hats] at hown2 NL2
      clear hats
      obtain ⟨ao2, an2, cap2, rfl⟩ : ∃ ao n cap, v2 = .slice ao n cap := by obtain ⟨a, c, h, -⟩ := (RdE.of_owns hown2 (by have := NL2.out; omega)).split; exact ⟨a, _, c, h⟩
      have la : tb < (wr.alloc (.cells #[.string (Utf8.encode (97 + (k : Int)))] 9)).heap.size := by simp; omega
      have u0 := (hg2.cell_far ⟨tb, 0, none⟩ la HNE.out).trans (((below_alloc wr _).cell (p := ⟨tb, 0, none⟩) hso).trans t0)
      have u1 := (hg2.cell_far ⟨tb, 1, none⟩ la HNE.out).trans (((below_alloc wr _).cell (p := ⟨tb, 1, none⟩) hso).trans t1)
      have u2 := (hg2.cell_far ⟨tb, 2, none⟩ la HNE.out).trans (((below_alloc wr _).cell (p := ⟨tb, 2, none⟩) hso).trans t2)
      have uf1 := (hg2.frozen_far ⟨tb, 1, none⟩ la HNE.out).trans (((below_alloc wr _).frozen (p := ⟨tb, 1, none⟩) hso).trans tf1)
      have uf2 := (hg2.frozen_far ⟨tb, 2, none⟩ la HNE.out).trans (((below_alloc wr _).frozen (p := ⟨tb, 2, none⟩) hso).trans tf2)
      have hb2 := below_push HNX.out (Nat.le_of_lt hso) (own_mono HO.out (Nat.le_succ _)) hg2
      have OW := hid (ownsRow_setCell_other hown2 (a := ⟨tb, 1, none⟩) (fun e => Nat.not_succ_le_self _ (hown2.lt _ e).1) (.slice ao2 an2 cap2))
      have BW := hid (hb2.setCell (p := ⟨tb, 1, none⟩) (Nat.le_refl _) (.slice ao2 an2 cap2))
      have g0 : (w2.setCell ⟨tb, 1, none⟩ (.slice ao2 an2 cap2)).cell? ⟨tb, 0, none⟩ = _ := (World.cell?_setCell_other _ _ _ _ (by simp)).trans u0
      have g1 : (w2.setCell ⟨tb, 1, none⟩ (.slice ao2 an2 cap2)).cell? ⟨tb, 1, none⟩ = _ := World.cell?_setCell_same _ _ _ u1
      have g2 : (w2.setCell ⟨tb, 1, none⟩ (.slice ao2 an2 cap2)).cell? ⟨tb, 2, none⟩ = _ := (World.cell?_setCell_other _ _ _ _ (by simp)).trans u2
      have gf1 : (w2.setCell ⟨tb, 1, none⟩ (.slice ao2 an2 cap2)).frozen? ⟨tb, 1, none⟩ = false := by simp [uf1]
      have gf2 : (w2.setCell ⟨tb, 1, none⟩ (.slice ao2 an2 cap2)).frozen? ⟨tb, 2, none⟩ = false := by simp [uf2]
      have GG := hid (And.intro (And.intro g0 (And.intro g1 g2)) (And.intro gf1 gf2))
      clear g0 g1 g2 gf1 gf2 hg2 hown2 hb2 t0 t1 t2 tf1 tf2
      go_wp2_with fail
      generalize w2.setCell ⟨tb, 1, none⟩ (.slice ao2 an2 cap2) = w3 at *
      go_roundw
      case rel => exact ⟨k + 1, _, by have := HLT.out; omega, by go_num, GG.out.1, GG.out.2, by rw [HAT.out]; exact OW.out, BW.out⟩
      case measure => have := HLT.out; simp [intOf]; omega
    · obtain rfl : k = m := by omega
      have NLm := hid (show (nameN k).length ≤ 8 by omega)
      obtain ⟨ats, hats⟩ : ∃ ats, nameN k = ats := ⟨_, rfl⟩
      have HAT := hid hats
      rw [hats] at hown NLm
      clear hats hnl
      obtain ⟨wa, rfl⟩ : ∃ wa : World, wa = wr := ⟨_, rfl⟩
      obtain ⟨ao, an, acap, rfl⟩ : ∃ ao n cap, av = .slice ao n cap := by obtain ⟨a, c, h, -⟩ := (RdE.of_owns hown (by have := NLm.out; omega)).split; exact ⟨a, _, c, h⟩
      have AV := hid (RdE.of_owns hown (by have := NLm.out; omega))
      have AVF := hid (fun (j : Nat) (h : j < tb + 1) => far_own hown h)
      have ST4 := hid (And.intro t0 (And.intro t1 (And.intro t2 tf2)))
      have KP0 := hid (show Kp (.slice ao an acap) (.slice none 0 0) ats ([] : List S) tb (Value.slice none 0 0).ownBlock wa from ⟨AV.out, RdE.of_owns (e := 47) (base := 0) (World.ownsRow_nil _ _ _ _) (by simp), AVF.out tb (by omega), (fun _ _ _ e _ => by cases e), (fun _ _ _ _ _ e => by cases e), (fun _ _ _ e _ => by cases e)⟩)
      have B4 := hid hnx
      clear hown hnx hlt t0 t1 t2 tf1 tf2
      go_wp2_with fail
      go_loopw [28] (fun idx wr => ∃ (i : Nat) (rs : List Row3) (tv : Value), i ≤ l.length ∧ idx = .int .i64 i ∧ (wr.cell? ⟨tb, 0, none⟩ = some (.string (ByteArray.mk #[116])) ∧ wr.cell? ⟨tb, 1, none⟩ = some (.slice ao an acap) ∧ wr.cell? ⟨tb, 2, none⟩ = some tv) ∧ wr.frozen? ⟨tb, 2, none⟩ = false ∧ wr.ownsRow (tb + 1) 87 2 tv rs.length (rs.flatMap cR) ∧ Hid (∀ r ∈ rs, RdV wr r.2.1 r.2.2 ∧ FarV r.2.1 tv.ownBlock ∧ (∀ j, j ≤ tb → FarV r.2.1 (some j))) ∧ Hid (rs.map (fun r => (r.1, r.2.2)) = (bitRs k l).take i) ∧ Hid (Kp (.slice ao an acap) (.slice none 0 0) ats [] tb tv.ownBlock wr) ∧ Below tb w1 wr) (fun idx _ => l.length - (intOf idx).toNat)
      case atStart => exact ⟨0, [], _, Nat.zero_le _, rfl, ⟨ST4.out.1, ST4.out.2.1, ST4.out.2.2.1⟩, ST4.out.2.2.2, World.ownsRow_nil _ _ _ _, hid (fun _ h => absurd h (by simp)), hid rfl, KP0, B4.out⟩
      case round =>
        obtain ⟨i, rs, tv, hi, rfl, ⟨t0, t1, t2⟩, tf, hown, HRS, HMP, KP, hnx⟩ := hrel
        have i0 : (0 : Int) ≤ (i : Int) := by omega
        have i65 : (i : Int) ≤ 64 := by have := LL.out; omega
        by_cases hlt : i < l.length
        · obtain ⟨s, hs⟩ := get_some hlt
          have hiu : i < l.length := hlt
          obtain ⟨uo', ucap', heq, -, hcs⟩ := (HV.out wr (B0.out.trans ((show Below w1.heap.size w1 wr by rw [HTB.out]; exact hnx).mono hsz0))).split
          simp only [Value.slice.injEq, true_and] at heq
          obtain ⟨rfl, rfl⟩ := heq
          obtain ⟨ub, uoff, hue, hdu⟩ := hcs i s hs
          have e0 := hdu wr (Below.refl _ _)
          unfold enc at e0
          have AT := hid (show (bitRs k l)[i]? = some ((i : Int) + 1, bitVs k s) by unfold bitRs; rw [List.getElem?_mapIdx, hs]; rfl)
          have HLT := hid hlt
          subst hue
          obtain ⟨wo, rfl⟩ : ∃ wo : World, wo = wr := ⟨_, rfl⟩
          have HO := hid hown
          have TT2 := hid (And.intro t0 (And.intro t1 (And.intro t2 tf)))
          have hso2 : tb < wo.heap.size := World.block_lt_of_cell? _ _ t0
          have hba := below_alloc wo (.cells #[.int .i64 ((i : Int) + 1), .slice none 0 0] 87)
          have hrc := cells2 (w := wo) (a := .int .i64 ((i : Int) + 1)) (b := .slice none 0 0) (t := 87) _ (Below.refl _ _)
          have hrf : (wo.alloc (.cells #[.int .i64 ((i : Int) + 1), .slice none 0 0] 87)).frozen? ⟨wo.heap.size, 1, none⟩ = false := by simp
          have RS := hid (And.intro hrc (And.intro hrf hba))
          have HNX := hid hnx
          clear hs hown hrc hrf hba hcs hdu hlt hnx
          go_wp2_with fail
          clear e0
          go_loopw [37] (fun idx wr => ∃ (j : Nat) (vv : Value), j ≤ k ∧ idx = .int .i64 j ∧ (wr.cell? ⟨wo.heap.size, 0, none⟩ = some (.int .i64 ((i : Int) + 1)) ∧ wr.cell? ⟨wo.heap.size, 1, none⟩ = some vv) ∧ wr.frozen? ⟨wo.heap.size, 1, none⟩ = false ∧ wr.ownsRow (wo.heap.size + 1) 94 3 vv (bitVs j s).length ((bitVs j s).flatMap cV) ∧ Below wo.heap.size wo wr) (fun idx _ => k - (intOf idx).toNat)
          case atStart => exact ⟨0, _, Nat.zero_le _, rfl, RS.out.1, RS.out.2.1, World.ownsRow_nil _ _ _ _, RS.out.2.2⟩
          case round =>
            obtain ⟨j, vv, hj, rfl, ⟨c0, c1⟩, cf, hown2, hnx2⟩ := hrel
            have hsz2 := hnx2.size
            have j0 : (0 : Int) ≤ (j : Int) := by omega
            have j6 : (j : Int) ≤ 6 := by omega
            by_cases hlt2 : j < k
            · have hrb : wo.heap.size < wr.heap.size := World.block_lt_of_cell? _ _ c1
              have AN := hid (bitVs_next j s)
              have HLV := hid (show (bitVs j s).length ≤ 6 by rw [bitVs_length]; omega)
              have HVB := hid (show (bitVs j s).length < 2199023255552 by rw [bitVs_length]; omega)
              obtain ⟨xs, hxs⟩ : ∃ xs, bitVs j s = xs := ⟨_, rfl⟩
              rw [hxs] at hown2 AN HLV HVB
              have hv0 : IntKind.i64.wrap (iv (s >>> j &&& 1#32)) = iv (s >>> j &&& 1#32) := by
                have := (s >>> j &&& 1#32).isLt
                unfold iv
                simp only [IntKind.wrap, IntKind.bits, IntKind.signed]
                first | (simp; done) | (simp; omega) | omega
              have KS := hid (fun (W : World) (h : Below wr.heap.size wr W) => And.intro ((h.cell (p := ⟨wo.heap.size, 0, none⟩) hrb).trans c0) (And.intro ((h.cell (p := ⟨wo.heap.size, 1, none⟩) hrb).trans c1) ((h.frozen (p := ⟨wo.heap.size, 1, none⟩) hrb).trans cf)))
              have HVC := hid (fun x : V3 => show (xs ++ [x]).length ≤ 35184372088832 by rw [List.length_append, List.length_singleton]; have := HLV.out; omega)
              have HNE := hid (show some wo.heap.size ≠ vv.ownBlock from fun e => by have := (hown2.lt _ e.symm).1; omega)
              have hL := below_drewN wr.heap.size wr 1
              have hq5 : wo.heap.size + 1 ≤ wr.drew.heap.size := hrb
              have ho5 := hown2.drew
              obtain ⟨d0, d1, d2⟩ := KS.out wr.drew hL
              obtain ⟨a0, a1, a2⟩ := KS.out _ (hL.alloc hL.size (.cells #[.int .i64 1, .int .i64 (iv (s >>> j &&& 1#32)), .string (ByteArray.mk #[])] 94))
              clear hxs
              go_wp2_with fail
              go_region_law (first
                | ((have hA := ho5.alloc (.cells #[.int .i64 1, .int .i64 (iv (s >>> j &&& 1#32)), .string (ByteArray.mk #[])] 94); have hB : wo.heap.size + 1 ≤ (wr.drew.alloc (.cells #[.int .i64 1, .int .i64 (iv (s >>> j &&& 1#32)), .string (ByteArray.mk #[])] 94)).heap.size := Nat.le_trans hq5 (by simp); refine step_pushC (by rfl) _ _ 85 (by rfl) (wo.heap.size + 1) 94 (.agg #[.int .i64 0, .int .i64 0, .string (ByteArray.mk #[])]) 3 32 undVs infoV rfl (by decide) (by decide) cV cV_length cV_one _ xs (by rfl) hA ⟨wr.drew.heap.size, 0, none⟩ ((1, iv (s >>> j &&& 1#32), ByteArray.mk #[]) : V3) (by rfl) (cells_newV wr.drew ((1, iv (s >>> j &&& 1#32), ByteArray.mk #[]) : V3)) HVB.out hB ?_; intro v6 w6 hown6 hgrow; obtain ⟨ao6, cap6, rfl, -⟩ := RdC.of_owns cV_length hown6 (HVC.out ((1, iv (s >>> j &&& 1#32), ByteArray.mk #[]) : V3)); have f0 := (hgrow.cell_far ⟨wo.heap.size, 0, none⟩ (World.block_lt_of_cell? _ _ a0) HNE.out).trans a0; have f1 := (hgrow.cell_far ⟨wo.heap.size, 1, none⟩ (World.block_lt_of_cell? _ _ a1) HNE.out).trans a1; have f2 := (hgrow.frozen_far ⟨wo.heap.size, 1, none⟩ (World.block_lt_of_cell? _ _ a1) HNE.out).trans a2)))
              all_goals
                have hb6 := below_push (hnx2.trans (hL.mono hsz2)) (Nat.le_of_succ_le hq5) (own_mono ho5 (by omega)) hgrow
                rw [show xs.length + 1 = (xs ++ [((1, iv (s >>> j &&& 1#32), ByteArray.mk #[]) : V3)]).length by simp]
                have OW6 := hid (ownsRow_setCell_other hown6 (a := ⟨wo.heap.size, 1, none⟩) (fun e => Nat.not_succ_le_self _ (hown6.lt _ e).1) (.slice ao6 (xs ++ [((1, iv (s >>> j &&& 1#32), ByteArray.mk #[]) : V3)]).length cap6))
                have B6 := hid (hb6.setCell (p := ⟨wo.heap.size, 1, none⟩) (by simp) (.slice ao6 (xs ++ [((1, iv (s >>> j &&& 1#32), ByteArray.mk #[]) : V3)]).length cap6))
                have g0 : (w6.setCell ⟨wo.heap.size, 1, none⟩ (.slice ao6 (xs ++ [((1, iv (s >>> j &&& 1#32), ByteArray.mk #[]) : V3)]).length cap6)).cell? ⟨wo.heap.size, 0, none⟩ = some (.int .i64 ((i : Int) + 1)) := (World.cell?_setCell_other _ _ _ _ (by simp)).trans f0
                have g1 : (w6.setCell ⟨wo.heap.size, 1, none⟩ (.slice ao6 (xs ++ [((1, iv (s >>> j &&& 1#32), ByteArray.mk #[]) : V3)]).length cap6)).cell? ⟨wo.heap.size, 1, none⟩ = some (.slice ao6 (xs ++ [((1, iv (s >>> j &&& 1#32), ByteArray.mk #[]) : V3)]).length cap6) := World.cell?_setCell_same _ _ _ f1
                have g2 : (w6.setCell ⟨wo.heap.size, 1, none⟩ (.slice ao6 (xs ++ [((1, iv (s >>> j &&& 1#32), ByteArray.mk #[]) : V3)]).length cap6)).frozen? ⟨wo.heap.size, 1, none⟩ = false := by simp [f2]
                have GG := hid (And.intro g0 (And.intro g1 g2))
                clear g0 g1 g2 f0 f1 f2 a0 a1 a2 d0 d1 d2 hA hB hgrow hb6 hown6 hL ho5 hq5
                generalize w6.setCell ⟨wo.heap.size, 1, none⟩ (.slice ao6 (xs ++ [((1, iv (s >>> j &&& 1#32), ByteArray.mk #[]) : V3)]).length cap6) = w7 at *
                go_wp2_with fail
                go_roundw
                case rel => exact ⟨j + 1, _, by omega, by go_num, ⟨GG.out.1, GG.out.2.1⟩, GG.out.2.2, by rw [AN.out]; exact OW6.out, B6.out⟩
                case measure => simp [intOf]; omega
            · obtain rfl : j = k := by omega
              have AVL := hid (bitVs_length j s)
              have RVv := hid (RdC.of_owns cV_length hown2 (by rw [bitVs_length]; omega))
              obtain ⟨ov, vcap, rfl, -⟩ := RdC.of_owns cV_length hown2 (by rw [bitVs_length]; omega)
              have t0 := (hnx2.cell (p := ⟨tb, 0, none⟩) hso2).trans TT2.out.1
              have t1 := (hnx2.cell (p := ⟨tb, 1, none⟩) hso2).trans TT2.out.2.1
              have t2 := (hnx2.cell (p := ⟨tb, 2, none⟩) hso2).trans TT2.out.2.2.1
              have tf := (hnx2.frozen (p := ⟨tb, 2, none⟩) hso2).trans TT2.out.2.2.2
              have O2 := hid (own_below HO.out hnx2)
              have HNT := hid (show some tb ≠ tv.ownBlock from fun e => Nat.not_succ_le_self _ (HO.out.lt _ e.symm).1)
              have HRL := hid (show rs.length ≤ 65 by have := congrArg List.length HMP.out; simp [bitRs] at this; omega)
              have HV2 := hid hown2
              have HSO := hid (Nat.lt_of_lt_of_le hso2 hsz2)
              have HX2 := hid hnx2
              have KP2 := hid (KP.out.below hnx2)
              have HRS2 := hid (fun (r' : Row3) (h : r' ∈ rs) => HRS.out r' h)
              clear hown2 hnx2
              go_wp2_with (at_builtin; (refine wpList_pushB rfl _ _ 33 rfl (tb + 1) 87 (.agg #[.int .i64 0, .slice none 0 0]) 2 32 undRows infoRow rfl (by decide) (by decide) cR cR_length _ rs rfl (O2.out.alloc (.cells #[.int .i64 ((i : Int) + 1), .slice ov (bitVs j s).length vcap] 87)) ⟨wr.heap.size, 0, none⟩ (((i : Int) + 1, Value.slice ov (bitVs j s).length vcap, bitVs j s) : Row3) (by intro u hu; simp [cR] at hu; rcases hu with rfl | rfl <;> rfl) rfl (cells_newR wr (((i : Int) + 1, Value.slice ov (bitVs j s).length vcap, bitVs j s) : Row3)) (by have := HRL.out; omega) (by have := HSO.out; simp; omega) ?_))
              intro v8 w8 hown8' hg8 hv8
              obtain ⟨y, hy⟩ : ∃ y, (((i : Int) + 1, Value.slice ov (bitVs j s).length vcap, bitVs j s) : Row3) = y := ⟨_, rfl⟩
              have hown8 : w8.ownsRow (tb + 1) 87 2 v8 (rs ++ [y]).length ((rs ++ [y]).flatMap cR) := by rw [← hy]; simpa using hown8'
              clear hown8'
              obtain ⟨o8, n8, cap8, rfl⟩ : ∃ ao n cap, v8 = .slice ao n cap := by obtain ⟨a, c, h, -⟩ := RdC.of_owns cR_length hown8 (show (rs ++ [y]).length ≤ 35184372088832 by have := HRL.out; rw [List.length_append, List.length_singleton]; omega); exact ⟨a, _, c, h⟩
              have la : tb < (wr.alloc (.cells #[.int .i64 ((i : Int) + 1), .slice ov (bitVs j s).length vcap] 87)).heap.size := by have := HSO.out; simp; omega
              have u0 := (hg8.cell_far ⟨tb, 0, none⟩ la HNT.out).trans (((below_alloc wr _).cell (p := ⟨tb, 0, none⟩) HSO.out).trans t0)
              have u1' := (hg8.cell_far ⟨tb, 1, none⟩ la HNT.out).trans (((below_alloc wr _).cell (p := ⟨tb, 1, none⟩) HSO.out).trans t1)
              have u2 := (hg8.cell_far ⟨tb, 2, none⟩ la HNT.out).trans (((below_alloc wr _).cell (p := ⟨tb, 2, none⟩) HSO.out).trans t2)
              have uf := (hg8.frozen_far ⟨tb, 2, none⟩ la HNT.out).trans (((below_alloc wr _).frozen (p := ⟨tb, 2, none⟩) HSO.out).trans tf)
              have OW9 := hid (ownsRow_setCell_other hown8 (a := ⟨tb, 2, none⟩) (fun e => Nat.not_succ_le_self _ (hown8.lt _ e).1) (.slice o8 n8 cap8))
              have hb8 := below_push (HNX.out.trans (HX2.out.mono (Nat.le_of_lt hso2))) (Nat.le_of_lt HSO.out) (own_mono O2.out (Nat.le_succ _)) hg8
              have B9 := hid (hb8.setCell (p := ⟨tb, 2, none⟩) (Nat.le_refl _) (.slice o8 n8 cap8))
              have HM9 := hid (show (rs ++ [y]).map (fun r => (r.1, r.2.2)) = (bitRs j l).take (i + 1) by rw [← hy, List.map_append, HMP.out, List.take_add_one, AT.out]; rfl)
              have KP9 := hid (((KP2.out.below (below_alloc wr _)).grown hg8 (by
                rcases hv8 with e | e
                · exact .inl e
                · exact .inr (by rw [e]; first | rfl | simp)) |>.set (i := 2) (x := .slice o8 n8 cap8)))
              have pv : ∀ (a : Addr) (len cap : Nat), (Value.slice ov (bitVs j s).length vcap) = .slice (some a) len cap → (Value.slice ov (bitVs j s).length vcap).ownBlock = some a.block := by intro a len cap e; cases e; rfl
              have HR9 := hid (show ∀ r' ∈ rs ++ [y], RdV (w8.setCell ⟨tb, 2, none⟩ (.slice o8 n8 cap8)) r'.2.1 r'.2.2 ∧ FarV r'.2.1 (Value.slice o8 n8 cap8).ownBlock ∧ (∀ q, q ≤ tb → FarV r'.2.1 (some q)) by
                intro r' hr'
                rcases List.mem_append.1 hr' with h | h
                · obtain ⟨p1, p2, p3⟩ := HRS2.out r' h
                  have p4 := RdC.grown ((RdC.below p1 HX2.out).below (below_alloc wr _)) hg8 p2
                  refine ⟨RdC.setFar p4 (p3 tb (Nat.le_refl _)), ?_, p3⟩
                  rcases hv8 with e | e
                  · rw [e]; exact p2
                  · rw [e]; exact RdC.blk (RdC.below p1 HX2.out) (by simp)
                · obtain rfl := List.mem_singleton.1 h
                  rw [← hy]
                  have pt : FarV (Value.slice ov (bitVs j s).length vcap) tv.ownBlock := fun a len cap e1 _ e2 => by have h1 := (HV2.out.lt _ (pv _ _ _ e1)).1; have h2 := (HO.out.lt _ e2).2; omega
                  have pb : ∀ q, q ≤ tb → FarV (Value.slice ov (bitVs j s).length vcap) (some q) := fun q hq a len cap e1 _ e2 => by have h1 := (HV2.out.lt _ (pv _ _ _ e1)).1; simp at e2; omega
                  have p4 := RdC.grown (RdC.below RVv.out (below_alloc wr _)) hg8 pt
                  refine ⟨RdC.setFar p4 (pb tb (Nat.le_refl _)), ?_, pb⟩
                  rcases hv8 with e | e
                  · rw [e]; exact pt
                  · rw [e]; intro a len cap e1 _ e2
                    have h1 := (HV2.out.lt _ (pv _ _ _ e1)).2
                    simp at e2; omega)
              have g0 : (w8.setCell ⟨tb, 2, none⟩ (.slice o8 n8 cap8)).cell? ⟨tb, 0, none⟩ = _ := (World.cell?_setCell_other _ _ _ _ (by simp)).trans u0
              have g1 : (w8.setCell ⟨tb, 2, none⟩ (.slice o8 n8 cap8)).cell? ⟨tb, 1, none⟩ = _ := (World.cell?_setCell_other _ _ _ _ (by simp)).trans u1'
              have g2 : (w8.setCell ⟨tb, 2, none⟩ (.slice o8 n8 cap8)).cell? ⟨tb, 2, none⟩ = some (.slice o8 n8 cap8) := World.cell?_setCell_same _ _ _ u2
              have gf : (w8.setCell ⟨tb, 2, none⟩ (.slice o8 n8 cap8)).frozen? ⟨tb, 2, none⟩ = false := by simp [uf]
              have GG := hid (And.intro g0 (And.intro g1 (And.intro g2 gf)))
              clear g0 g1 g2 gf hown8 hg8 hv8 hb8 pv hy t0 t1 t2 tf
              go_wp2_with fail
              generalize w8.setCell ⟨tb, 2, none⟩ (.slice o8 n8 cap8) = w9 at *
              go_wp2_with fail
              go_roundw
              case rel => exact ⟨i + 1, rs ++ [y], _, by have := HLT.out; omega, by go_num, ⟨GG.out.1, GG.out.2.1, GG.out.2.2.1⟩, GG.out.2.2.2, OW9.out, HR9, HM9, KP9, B9.out⟩
              case measure => simp [intOf]; omega
        · obtain rfl : i = l.length := by omega
          have hun : ¬ ((l.length : Int) < (l.length : Int)) := by omega
          have HRL := hid (show rs.length ≤ 65 by have := congrArg List.length HMP.out; simp [bitRs] at this; have := LL.out; omega)
          have RT := hid (show RdC cR wr tv rs from RdC.of_owns cR_length hown (by have := HRL.out; omega))
          have HMf := hid (show rs.map (fun r => (r.1, r.2.2)) = bitRs k l by rw [HMP.out]; exact List.take_of_length_le (by simp [bitRs]))
          obtain ⟨ot, tn, tcap, rfl⟩ : ∃ ao n cap, tv = .slice ao n cap := by obtain ⟨a, c, h, -⟩ := RdC.of_owns cR_length hown (by have := HRL.out; omega); exact ⟨a, _, c, h⟩
          have htb1 : w.heap.size + 1 ≤ tb := by have h1 := HTB.out; have h2 := HS0.out; omega
          have BR := hid (show Below w.heap.size w wr from B0.out.trans ((show Below w1.heap.size w1 wr by rw [HTB.out]; exact hnx).mono hsz0))
          obtain ⟨⟨z0, z1, z2⟩, zf⟩ := Z3.out _ (show Below w1.heap.size w1 wr by rw [HTB.out]; exact hnx)
          have zf0 := zf 0
          have zf1 := zf 1
          have zf2 := zf 2
          have hfar := hid (show ∀ r ∈ rs, RdV wr r.2.1 r.2.2 from fun r hr => (HRS.out r hr).1)
          have FT := hid (fun (j : Nat) (h : j < tb + 1) => far_own hown h)
          clear zf hown hnx hlt
          go_wp2_with fail
          obtain ⟨wf, hwf⟩ : ∃ wf : World, ((wr.setCell ⟨w.heap.size, 0, none⟩ (.string (ByteArray.mk #[116]))).setCell ⟨w.heap.size, 1, none⟩ (.slice ao an acap)).setCell ⟨w.heap.size, 2, none⟩ (.slice ot tn tcap) = wf := ⟨_, rfl⟩
          obtain ⟨r0, r1, r2⟩ := set3w z0 z1 z2 hwf
          have QA : RdE encT wf (.slice ao an acap) ats := by rw [← hwf]; exact RdE.set3 KP.out.1 (AVF.out _ (by omega))
          have QR : RdC cR wf (.slice ot tn tcap) rs := by rw [← hwf]; exact RdC.set3 RT.out (FT.out _ (by omega))
          have QV : ∀ r ∈ rs, RdV wf r.2.1 r.2.2 := fun r hr => by rw [← hwf]; exact RdC.set3 (hfar.out r hr) ((HRS.out r hr).2.2 _ (by omega))
          have QB : Below w.heap.size w wf := by rw [← hwf]; exact ((BR.out.setCell (p := ⟨w.heap.size, 0, none⟩) (Nat.le_refl _) _).setCell (p := ⟨w.heap.size, 1, none⟩) (Nat.le_refl _) _).setCell (p := ⟨w.heap.size, 2, none⟩) (Nat.le_refl _) _
          rw [hwf]
          have QT : RdT wf (.slice ao an acap) (.slice ot tn tcap) (armT k rs) := ⟨by show RdE encT wf _ (nameN k); rw [HAT.out]; exact QA, QR, QV⟩
          exact bodyPost_ret (v := .agg #[.string (ByteArray.mk #[116]), .slice ao an acap, .slice ot tn tcap]) (by simp [results, Tryz.results39, go_sem, r0, r1, r2]) rfl (show BldP k l w _ wf from ⟨_, _, rs, rfl, QT, HMf.out, fun j hj => ⟨AVF.out j (by omega), FT.out j (by omega), fun r hr => (HRS.out r hr).2.2 j (by omega)⟩, QB⟩)

end Go.Proofs.YtcfcmalaabmceaaGreatDoor


/- The walk of refute.FD. -/
namespace Go.Proofs.YtcfcmalaabmceaaGreatDoor
open Go.RowKit
set_option linter.unusedVariables false
set_option linter.unusedSimpArgs false

/-- What FD leaves: the table that refutes, or ErrImplied. -/
def RefP (m : Nat) (fs : List F) (g : F) (w : World) (e : Ending) (w' : World) : Prop :=
  (impS fs g = true → e = .returned (.tuple #[.agg #[.string (ByteArray.mk #[]), .slice none 0 0, .slice none 0 0], .int .i64 10])) ∧
  (impS fs g = false → ∃ (av tv : Value) (rs : List Row3), e = .returned (.tuple #[.agg #[.string (ByteArray.mk #[116]), av, tv], .int .i64 0]) ∧ RdT w' av tv (armT m rs) ∧ rs.map (fun r => (r.1, r.2.2)) = bitRs m [0#32, fullN m &&& ~~~ closeS fs g.1]) ∧ Below w.heap.size w w'
set_option maxHeartbeats 3200000 in
set_option maxRecDepth 100000 in
theorem rfd_any (m : Nat) (fs : List F) (g : F) (v : Value) (w : World) (hv : RdF w v fs) (hm : m ≤ 6) (hval : validF (m : Int) fs = 0) (hg : shrOk (g.1 ||| g.2) m = true) :
    Calls Tryz.prog 17 #[.int .i64 (m : Int), v, .agg #[.int .u32 (iv g.1), .int .u32 (iv g.2)]] w (RefP m fs g w) := by
  have hb00 := below_alloc w (.cells #[.int .u32 (iv g.1), .int .u32 (iv g.2)] 49)
  have hb01 := below_alloc (w.alloc (.cells #[.int .u32 (iv g.1), .int .u32 (iv g.2)] 49)) (.cells #[.string (ByteArray.mk #[]), .slice none 0 0, .slice none 0 0] 35)
  have hb0 := hb00.trans (hb01.mono hb00.size)
  have C2' := cells2 (w := w) (a := .int .u32 (iv g.1)) (b := .int .u32 (iv g.2)) (t := 49) _ hb01
  have Z3 := hid (fun (W : World) h => And.intro (cells3 (w := w.alloc (.cells #[.int .u32 (iv g.1), .int .u32 (iv g.2)] 49)) (a := .string (ByteArray.mk #[])) (b := .slice none 0 0) (c := .slice none 0 0) (t := 35) W h) (show ∀ i : Nat, W.frozen? ⟨(w.alloc (.cells #[.int .u32 (iv g.1), .int .u32 (iv g.2)] 49)).heap.size, i, none⟩ = false from fun i => (h.frozen (p := ⟨_, i, none⟩) (by simp)).trans (by simp)))
  rw [show (w.alloc (.cells #[.int .u32 (iv g.1), .int .u32 (iv g.2)] 49)).heap.size = w.heap.size + 1 by simp] at Z3
  obtain ⟨w0, hw0⟩ : ∃ w0 : World, (w.alloc (.cells #[.int .u32 (iv g.1), .int .u32 (iv g.2)] 49)).alloc (.cells #[.string (ByteArray.mk #[]), .slice none 0 0, .slice none 0 0] 35) = w0 := ⟨_, rfl⟩
  rw [hw0] at hb0 C2' Z3
  have W0 := hid hw0
  have B0 := hid hb0
  have SZ0 := hid (show w0.heap.size = w.heap.size + 2 by rw [← hw0]; simp)
  have C2 := hid (fun (W : World) (h : Below w0.heap.size w0 W) => show W.cell? ⟨w.heap.size, 0, none⟩ = some (.int .u32 (iv g.1)) ∧ W.cell? ⟨w.heap.size, 1, none⟩ = some (.int .u32 (iv g.2)) from ⟨(h.cell (p := ⟨w.heap.size, 0, none⟩) (World.block_lt_of_cell? _ _ C2'.1)).trans C2'.1, (h.cell (p := ⟨w.heap.size, 1, none⟩) (World.block_lt_of_cell? _ _ C2'.2)).trans C2'.2⟩)
  have V0 := hid (RdC.below hv hb0)
  have VA := hid (fun (W : World) (h : Below w0.heap.size w0 W) => validF_any (m : Int) fs v W (RdC.below V0.out h))
  rw [hval] at VA
  have WI := hid (fun (W : World) => show Calls Tryz.prog 38 #[.int .i64 (m : Int), .int .u32 (iv (g.1 ||| g.2))] W fun e w' => e = .returned (.bool true) ∧ W = w' from by
    have h := rwithin_any m (g.1 ||| g.2) W (by omega)
    rw [hg] at h
    exact h)
  have IM := hid (fun (W : World) (h : Below w0.heap.size w0 W) => show Calls Tryz.prog 35 #[v, .agg #[.int .u32 (iv g.1), .int .u32 (iv g.2)]] W fun e w' => e = .returned (.bool (impS fs g)) ∧ Below W.heap.size W w' from implies_any fs g v W (RdC.below V0.out h))
  have CL := hid (fun (W : World) (h : Below w0.heap.size w0 W) => show Calls Tryz.prog 40 #[v, .int .u32 (iv g.1)] W fun e w' => e = .returned (.int .u32 (iv (closeS fs g.1))) ∧ Below W.heap.size W w' from close_any fs g.1 v W (RdC.below V0.out h))
  obtain ⟨c0, c1⟩ := C2.out _ (Below.refl _ _)
  obtain ⟨vo, vcap, rfl, -⟩ := hv
  have m0 : (0 : Int) ≤ (m : Int) := by omega
  have m1 : (m : Int) ≤ 6 := by omega
  have HM := hid hm
  clear hb00 hb01 hb0 hw0 hval hg hm C2'
  go_enter Tryz.func17, Tryz.ntmps17
  go_upto_region 1 with fail
  rw [W0.out]
  go_wp2_with fail
  refine (VA.out _ (Below.refl _ _)).mono ?_
  rintro e w1 ⟨rfl, hb1⟩
  have D1 := hid hb1
  clear hb1 c0 c1
  obtain ⟨c0, c1⟩ := C2.out _ D1.out
  go_wp2_with fail
  refine (WI.out _).mono ?_
  rintro e w' ⟨rfl, rfl⟩
  go_wp2_with fail
  refine (IM.out _ D1.out).mono ?_
  rintro e w2 ⟨rfl, hb2⟩
  have D2 := hid (D1.out.trans (hb2.mono D1.out.size))
  clear hb2 c0 c1
  obtain ⟨⟨z0, z1, z2⟩, zf⟩ := Z3.out _ D2.out
  have zf0 := zf 0
  have zf1 := zf 1
  have zf2 := zf 2
  clear zf
  rcases himp : impS fs g with _ | _
  · have HI := hid himp
    have BLD := hid (fun (l : List S) (x : Value) (W : World) (h : RdE enc W x l) (hl : l.length ≤ 64) => rbuild_any m l x W h HM.out hl)
    obtain ⟨cs, hcs⟩ : ∃ cs, closeS fs g.1 = cs := ⟨_, rfl⟩
    have HCS := hid hcs
    rw [hcs] at CL
    have SF := hid (shl_fullM (m := m) (by have := HM.out; omega))
    obtain ⟨c0, c1⟩ := C2.out _ D2.out
    have HDR := hid (show Below w0.heap.size w0 w2.drew from D2.out.drew)
    have HLT := hid (fun (W : World) => RdE.of_owns (f := enc) (xs := [0#32, (1#32 <<< m - 1#32) &&& ~~~ cs]) (World.ownsRow_lit (base := 0) (e := 47) (size := 1) W #[.int .u32 (iv 0#32), .int .u32 (iv ((1#32 <<< m - 1#32) &&& ~~~ cs))] 2 (Nat.zero_le _) (by unfold maxLen; omega) rfl) (by simp))
    clear himp hcs
    go_wp2_with fail
    go_region_law (first
      | (go_simp; go_at_call 40; refine (CL.out _ HDR.out).mono ?_; rintro e wa ⟨rfl, hba⟩; have hLa := HDR.out.trans (hba.mono HDR.out.size); have hLc := hLa.alloc hLa.size (.cells #[.int .u32 0, .int .u32 (iv ((1#32 <<< m - 1#32) &&& ~~~ cs))] 47); clear hba)
      | (go_simp; go_at_call 39; refine (BLD.out [0#32, (1#32 <<< m - 1#32) &&& ~~~ cs] _ _ (HLT.out wa) (by simp)).mono ?_; rintro e wb ⟨av, tv, rs, rfl, hrt, hrm, hfar, hbb⟩; have hLb := hLc.trans (hbb.mono hLc.size); obtain ⟨⟨z0, z1, z2⟩, zf⟩ := Z3.out _ hLb; have zf0 := zf 0; have zf1 := zf 1; have zf2 := zf 2; obtain ⟨ao, an, acap, rfl⟩ : ∃ ao n cap, av = .slice ao n cap := (by obtain ⟨a, c, h, -⟩ := hrt.1.split; exact ⟨a, _, c, h⟩); obtain ⟨to_, tn, tcap, rfl⟩ : ∃ ao n cap, tv = .slice ao n cap := (by obtain ⟨a, c, h, -⟩ := hrt.2.1; exact ⟨a, _, c, h⟩); clear zf hbb))
    have HFR := hid (hfar (w.heap.size + 1) (by have h1 := SZ0.out; have h2 := hLa.size; simp; omega))
    have HRT := hid hrt
    have HRM := hid hrm
    have HLB := hid hLb
    clear hfar hrt hrm hLb hLa hLc
    go_wp2_with fail
    obtain ⟨wf, hwf⟩ : ∃ wf : World, ((wb.setCell ⟨w.heap.size + 1, 0, none⟩ (.string (ByteArray.mk #[116]))).setCell ⟨w.heap.size + 1, 1, none⟩ (.slice ao an acap)).setCell ⟨w.heap.size + 1, 2, none⟩ (.slice to_ tn tcap) = wf := ⟨_, rfl⟩
    obtain ⟨r0, r1, r2⟩ := set3w z0 z1 z2 hwf
    have QA : RdE encT wf (.slice ao an acap) (armT m rs).2.1 := by rw [← hwf]; exact RdE.set3 HRT.out.1 HFR.out.1
    have QR : RdC cR wf (.slice to_ tn tcap) rs := by rw [← hwf]; exact RdC.set3 HRT.out.2.1 HFR.out.2.1
    have QV : ∀ r ∈ rs, RdV wf r.2.1 r.2.2 := fun r hr => by rw [← hwf]; exact RdC.set3 (HRT.out.2.2 r hr) (HFR.out.2.2 r hr)
    have QB : Below w.heap.size w wf := by rw [← hwf]; exact (((B0.out.trans (HLB.out.mono B0.out.size)).setCell (p := ⟨w.heap.size + 1, 0, none⟩) (Nat.le_succ _) _).setCell (p := ⟨w.heap.size + 1, 1, none⟩) (Nat.le_succ _) _).setCell (p := ⟨w.heap.size + 1, 2, none⟩) (Nat.le_succ _) _
    rw [hwf]
    exact bodyPost_ret (v := .tuple #[.agg #[.string (ByteArray.mk #[116]), .slice ao an acap, .slice to_ tn tcap], .int .i64 0]) (by simp [results, Tryz.results17, go_sem, r0, r1, r2]) rfl (show RefP m fs g w _ wf from ⟨(fun h => by rw [HI.out] at h; cases h), (fun _ => ⟨_, _, rs, rfl, ⟨QA, QR, QV⟩, by rw [HCS.out, ← SF.out]; exact HRM.out⟩), QB⟩)
  · have HI := hid himp
    clear himp
    go_wp2_with fail
    obtain ⟨wf, hwf⟩ : ∃ wf : World, ((w2.setCell ⟨w.heap.size + 1, 0, none⟩ (.string (ByteArray.mk #[]))).setCell ⟨w.heap.size + 1, 1, none⟩ (.slice none 0 0)).setCell ⟨w.heap.size + 1, 2, none⟩ (.slice none 0 0) = wf := ⟨_, rfl⟩
    obtain ⟨r0, r1, r2⟩ := set3w z0 z1 z2 hwf
    have QB : Below w.heap.size w wf := by rw [← hwf]; exact (((B0.out.trans (D2.out.mono B0.out.size)).setCell (p := ⟨w.heap.size + 1, 0, none⟩) (Nat.le_succ _) _).setCell (p := ⟨w.heap.size + 1, 1, none⟩) (Nat.le_succ _) _).setCell (p := ⟨w.heap.size + 1, 2, none⟩) (Nat.le_succ _) _
    rw [hwf]
    exact bodyPost_ret (v := .tuple #[.agg #[.string (ByteArray.mk #[]), .slice none 0 0, .slice none 0 0], .int .i64 10]) (by simp [results, Tryz.results17, go_sem, r0, r1, r2]) rfl (show RefP m fs g w _ wf from ⟨fun _ => rfl, (fun h => by rw [HI.out] at h; cases h), QB⟩)

end Go.Proofs.YtcfcmalaabmceaaGreatDoor

