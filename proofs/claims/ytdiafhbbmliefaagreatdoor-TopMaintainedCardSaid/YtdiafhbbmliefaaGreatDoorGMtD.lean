/- Texts that belong together, in one file. -/
import Derived.Test.YtdiafhbbmliefaaGreatDoorGMid
import Derived.Test.YtdiafhbbmliefaaGreatDoorGMtC
import Derived.Lib.AppendZerosOnto
import Derived.Shelf.Spec.SlicesInsert
import Derived.Laws.OwnMore
import Derived.Test.YtdiafhbbmliefaaGreatDoorGTab20
/- The walks of slices.Grow and slices.Concat at rows. -/
namespace Go.Proofs.YtdiafhbbmliefaaGreatDoor
open Go.RowKit
set_option linter.unusedVariables false

/-- A row's cells, each one cell whatever it is. -/
def oneV (v : Value) : Value := if v.oneCell' = true then v else .slice none 0 0
def cQ (r : Row3) : List Value := [.int .i64 r.1, oneV r.2.1]
theorem cQ_length (r : Row3) : (cQ r).length = 2 := rfl
theorem cQ_one (r : Row3) : ∀ u ∈ cQ r, u.oneCell' = true := by
  intro u hu
  simp only [cQ, List.mem_cons, List.not_mem_nil, or_false] at hu
  rcases hu with rfl | rfl
  · rfl
  · unfold oneV
    split
    · assumption
    · rfl
theorem oneV_slice {v : Value} (h : v.oneCell' = true) : oneV v = v := if_pos h
theorem flatQ {rs : List Row3} (h : ∀ r ∈ rs, r.2.1.oneCell' = true) : rs.flatMap cQ = rs.flatMap cR := by
  induction rs with
  | nil => rfl
  | cons r rs ih =>
    rw [List.flatMap_cons, List.flatMap_cons, ih fun q hq => h q (List.mem_cons_of_mem _ hq)]
    congr 1
    unfold cQ cR
    rw [oneV_slice (h r (by simp))]
theorem RdC.toQ {w : World} {v : Value} {rs : List Row3} (h : RdC cR w v rs) (h1 : ∀ r ∈ rs, r.2.1.oneCell' = true) : RdC cQ w v rs := by
  obtain ⟨ao, cap, rfl, h2, h3, h4⟩ := h
  exact ⟨ao, cap, rfl, h2, h3, fun hp => by rw [flatQ h1]; exact h4 hp⟩
theorem RdC.ofQ {w : World} {v : Value} {rs : List Row3} (h : RdC cQ w v rs) (h1 : ∀ r ∈ rs, r.2.1.oneCell' = true) : RdC cR w v rs := by
  obtain ⟨ao, cap, rfl, h2, h3, h4⟩ := h
  exact ⟨ao, cap, rfl, h2, h3, fun hp => by rw [← flatQ h1]; exact h4 hp⟩
theorem RdR.ones {w : World} {v : Value} {rs : List Row3} (h : RdR w v rs) : ∀ r ∈ rs, r.2.1.oneCell' = true := by
  intro r hr
  obtain ⟨ao, cap, e, -⟩ := RdV.split (h.2 r hr)
  rw [e]; rfl

set_option maxHeartbeats 1600000 in
set_option maxRecDepth 100000 in
/-- slices.Grow of the nil slice. -/
theorem growR_any (k : Nat) (hk : k < 1099511627776) (w : World) :
    Calls Tryz.prog 105 #[.slice none 0 0, .int .i64 k] w fun e w' => ∃ v', e = .returned v' ∧ w'.ownsRow w.heap.size 44 2 v' 0 [] ∧ Below w.heap.size w w' := by
  have k0 : ¬ ((k : Int) < 0) := by omega
  have kw : wrap64 ((k : Int)) = (k : Int) := by unfold wrap64; omega
  by_cases h0 : k = 0
  · subst h0
    go_enter Tryz.func105, Tryz.ntmps105
    go_wp2_with fail
    go_ret
    exact ⟨_, rfl, World.ownsRow_nil _ _ _ _, Below.refl _ _⟩
  · obtain ⟨i, hi, hz0, hz1, hz2⟩ := info_parts infoRow
    have k1 : (0 : Int) < (k : Int) := by omega
    have hold : (Builtin.firstCells i.size 0 (.slice none 0 0)).run Tryz.prog w.drew = .ok ([] : List Value).toArray w.drew := run_firstCells_none w.drew i.size 0 0 0
    have hrz : ∀ ty, (Builtin.append_ #[46, 3] ty #[.slice none 0 0, .int .i64 (k : Int)]).run Tryz.prog w = .ok (.slice (some ⟨w.heap.size, 0, none⟩) k (grownCap w (0 + k) 0 44)) (w.drew.alloc (.cells (([] : List Value).toArray ++ Builtin.zeroCells (Value.agg #[.int .i64 0, .slice none 0 0]).cells k ++ Builtin.zeroCells (Value.agg #[.int .i64 0, .slice none 0 0]).cells (grownCap w (0 + k) 0 44 - (0 + k))) 44)) := fun ty => by
      have h := Lib.run_append_grow_zeros w 46 3 ty 44 i (.agg #[.int .i64 0, .slice none 0 0]) .i64 .i64 undRows (by kernel_rfl) hi hz0 none 0 0 [] hold k (by omega) (by omega) (by omega) (by omega) (by rw [hz2]; omega) (by rw [hz2]; exact growslice_fits (by omega) (by omega))
      rw [show (0 + k : Nat) = k by omega] at h ⊢
      exact h
    have hcap : grownCap w (0 + k) 0 44 ≤ maxLen := grownCap_le_maxLen w _ _ _ (by unfold maxLen; omega)
    have hge : 0 + k ≤ grownCap w (0 + k) 0 44 := grownCap_ge w _ _ _
    generalize grownCap w (0 + k) 0 44 = G at *
    have hsz : (([] : List Value).toArray ++ Builtin.zeroCells (Value.agg #[.int .i64 0, .slice none 0 0]).cells k ++ Builtin.zeroCells (Value.agg #[.int .i64 0, .slice none 0 0]).cells (G - (0 + k))).size = G * 2 := by
      rw [Array.size_append, Array.size_append, size_zeroCells, size_zeroCells, show (Value.agg #[.int .i64 0, .slice none 0 0]).cells.size = 2 from rfl]
      simp; omega
    generalize ([] : List Value).toArray ++ Builtin.zeroCells (Value.agg #[.int .i64 0, .slice none 0 0]).cells k ++ Builtin.zeroCells (Value.agg #[.int .i64 0, .slice none 0 0]).cells (G - (0 + k)) = cs at *
    have HRZ := hid hrz
    have G63 : (0 : Int) ≤ (G : Int) := by omega
    have HC := hid hcap
    have HZ := hid hsz
    clear hrz hold hcap hsz hge
    go_enter Tryz.func105, Tryz.ntmps105
    go_wp2_with (at_builtin; refine Lib.wpList_append_run _ rfl _ _ _ _ rfl _ _ rfl rfl _ _ (HRZ.out _) ?_)
    go_ret
    refine ⟨_, rfl, ⟨by simp, .inr ⟨w.heap.size, G, cs, rfl, Nat.le_refl _, ?_, Nat.zero_le _, HC.out, HZ.out, by simp⟩⟩, (Below.refl _ w).drew.alloc (Nat.le_refl _) _⟩
    show (w.heap.push (.cells cs 44))[w.heap.size]? = _
    simp

/-- Concat of two lists. -/
theorem concatR_any (xs ys : List Row3) (v u : Value) (b : Nat) (w : World) (h0 : w.cell? ⟨b, 0, none⟩ = some v) (h1 : w.cell? ⟨b, 1, none⟩ = some u) (hv : RdC cQ w v xs) (hu : RdC cQ w u ys) (hl : xs.length + ys.length < 1099511627776) :
    Calls Tryz.prog 66 #[.slice (some ⟨b, 0, none⟩) 2 2] w fun e w' => ∃ v', e = .returned v' ∧ w'.ownsRow w.heap.size 44 2 v' (xs ++ ys).length ((xs ++ ys).flatMap cQ) ∧ Below w.heap.size w w' := by
  have hb := World.block_lt_of_cell? _ _ h0
  have CE := hid (fun (W : World) (h : Below w.heap.size w W) => And.intro ((h.cell (p := ⟨b, 0, none⟩) hb).trans h0) ((h.cell (p := ⟨b, 1, none⟩) hb).trans h1))
  have RV := hid (fun (W : World) (h : Below w.heap.size w W) => hv.below h)
  have RU := hid (fun (W : World) (h : Below w.heap.size w W) => hu.below h)
  have GR := hid (fun (W : World) => growR_any (xs.length + ys.length) hl W)
  obtain ⟨ao, cap, rfl⟩ := hv.form
  obtain ⟨bo, cbp, rfl⟩ := hu.form
  clear hv hu hb
  go_enter Tryz.func66, Tryz.ntmps66
  go_wp2_with fail
  go_loop [3, 11] (fun t i => ∃ k : Nat, k ≤ 2 ∧ i = .int .i64 k ∧ t = .int .i64 ((if 1 ≤ k then xs.length else 0) + (if 2 ≤ k then ys.length else 0) : Nat)) (fun _ i => 2 - (intOf i).toNat)
  case atStart => exact ⟨0, by omega, rfl, rfl⟩
  case round =>
    obtain ⟨k, hk, rfl, rfl⟩ := hrel
    rcases (show k = 0 ∨ k = 1 ∨ k = 2 by omega) with rfl | rfl | rfl
    · have hx : ((if 1 ≤ 0 then xs.length else 0) + (if 2 ≤ 0 then ys.length else 0) : Nat) = 0 := by simp
      rw [hx]
      clear hx
      go_wp2_with fail
      go_round
      case rel => exact ⟨1, by omega, rfl, by simp⟩
      case measure => simp [intOf]
    · have hx : ((if 1 ≤ 1 then xs.length else 0) + (if 2 ≤ 1 then ys.length else 0) : Nat) = xs.length := by simp
      rw [hx]
      clear hx
      have hn : ¬ ((xs.length : Int) + (ys.length : Int) < 0) := by omega
      go_wp2_with fail
      go_round
      case rel => exact ⟨2, by omega, rfl, by simp⟩
      case measure => simp [intOf]
    · have hx : ((if 1 ≤ 2 then xs.length else 0) + (if 2 ≤ 2 then ys.length else 0) : Nat) = xs.length + ys.length := by simp
      rw [hx]
      clear hx
      go_wp2_with fail
      refine (GR.out w).mono ?_
      rintro e w1 ⟨v1, rfl, ho1, hb1⟩
      have HO := hid ho1
      have B1 := hid hb1
      clear ho1 hb1 h0 h1
      go_wp2_with fail
      go_loopw [6, 27] (fun o i wr => ∃ k : Nat, k ≤ 2 ∧ i = .int .i64 k ∧ wr.ownsRow w.heap.size 44 2 o ((if 1 ≤ k then xs else []) ++ (if 2 ≤ k then ys else [])).length (((if 1 ≤ k then xs else []) ++ (if 2 ≤ k then ys else [])).flatMap cQ) ∧ Below w.heap.size w wr) (fun _ i _ => 2 - (intOf i).toNat)
      case atStart => exact ⟨0, by omega, rfl, by simpa using HO.out, B1.out⟩
      case round =>
        obtain ⟨k, hk, rfl, hown, hnx⟩ := hrel
        have hsz := hnx.size
        obtain ⟨c0, c1⟩ := CE.out wr hnx
        have V := hid (RV.out wr hnx)
        have U := hid (RU.out wr hnx)
        rcases (show k = 0 ∨ k = 1 ∨ k = 2 by omega) with rfl | rfl | rfl
        · simp at hown
          have hown' : wr.ownsRow w.heap.size 44 2 u6 ([] : List Row3).length (([] : List Row3).flatMap cQ) := by simpa using hown
          clear hown
          go_wp2_with (at_builtin; refine wpList_appC rfl _ _ 46 rfl w.heap.size 44 (.agg #[.int .i64 0, .slice none 0 0]) 32 undRows infoRow rfl (by decide) (by decide) cQ_length cQ_one _ [] rfl hown' _ xs rfl V.out (by simp; omega) hsz ?_)
          intro v' w2 ho2 hgrow
          have hb2 := hnx.grown hgrow hsz (fun j hj => (hown'.lt j hj).1)
          clear hgrow hown' hnx c0 c1
          go_wp2_with fail
          go_roundw
          case rel => exact ⟨1, by omega, rfl, by simpa using ho2, hb2⟩
          case measure => simp [intOf]
        · have hown' : wr.ownsRow w.heap.size 44 2 u6 xs.length (xs.flatMap cQ) := by simpa using hown
          clear hown
          go_wp2_with (at_builtin; refine wpList_appC rfl _ _ 46 rfl w.heap.size 44 (.agg #[.int .i64 0, .slice none 0 0]) 32 undRows infoRow rfl (by decide) (by decide) cQ_length cQ_one _ xs rfl hown' _ ys rfl U.out (by omega) hsz ?_)
          intro v' w2 ho2 hgrow
          have hb2 := hnx.grown hgrow hsz (fun j hj => (hown'.lt j hj).1)
          clear hgrow hown' hnx c0 c1
          go_wp2_with fail
          go_roundw
          case rel => exact ⟨2, by omega, rfl, by simpa using ho2, hb2⟩
          case measure => simp [intOf]
        · have hown' : wr.ownsRow w.heap.size 44 2 u6 (xs ++ ys).length ((xs ++ ys).flatMap cQ) := by simpa using hown
          clear hown
          go_wp2_with fail
          go_ret
          exact ⟨_, rfl, hown', hnx⟩

end Go.Proofs.YtdiafhbbmliefaaGreatDoor


/- The walk of slices.BinarySearchFunc at rows (table.Insert's comparison). -/
namespace Go.Proofs.YtdiafhbbmliefaaGreatDoor
open Go.RowKit
set_option linter.unusedVariables false

def cmpJ (a b : Int) : Int := if a < b then -1 else if b < a then 1 else 0
set_option maxRecDepth 100000 in
theorem tins1_any (a id : Int) (u : Value) (w : World) :
    Calls Tryz.prog 73 #[.agg #[.int .i64 a, u], .int .i64 id] w fun e w' => e = .returned (.int .i64 (cmpJ a id)) ∧ Below w.heap.size w w' := by
  have hb := hid (below_alloc w (.cells #[.int .i64 a, u] 44))
  obtain ⟨c0, c1⟩ := cells2 (w := w) (a := .int .i64 a) (b := u) (t := 44) _ (Below.refl _ _)
  rcases (show a < id ∨ (¬ a < id ∧ id < a) ∨ (¬ a < id ∧ ¬ id < a) by omega) with h | ⟨h1, h2⟩ | ⟨h1, h2⟩
  · have e : cmpJ a id = -1 := by simp [cmpJ, h]
    rw [e]; clear e
    go_enter Tryz.func73, Tryz.ntmps73
    go_wp2
    go_ret
    exact ⟨rfl, hb.out⟩
  · have e : cmpJ a id = 1 := by simp [cmpJ, h1, h2]
    rw [e]; clear e
    go_enter Tryz.func73, Tryz.ntmps73
    go_wp2
    go_ret
    exact ⟨rfl, hb.out⟩
  · have e : cmpJ a id = 0 := by simp [cmpJ, h1, h2]
    rw [e]; clear e
    go_enter Tryz.func73, Tryz.ntmps73
    go_wp2
    go_ret
    exact ⟨rfl, hb.out⟩
theorem cmpJ_neg (a b : Int) : cmpJ a b < 0 ↔ a < b := by
  unfold cmpJ
  by_cases h1 : a < b
  · rw [if_pos h1]; simp [h1]
  · rw [if_neg h1]
    by_cases h2 : b < a
    · rw [if_pos h2]; simp [h1]
    · rw [if_neg h2]; simp [h1]
theorem asc_at {rs : List Row3} (h : (rs.map (·.1)).Pairwise (· < ·)) {i j : Nat} {r q : Row3} (hr : rs[i]? = some r) (hq : rs[j]? = some q) (hij : i ≤ j) : r.1 ≤ q.1 := by
  by_cases e : i = j
  · subst e; rw [hr] at hq; cases hq; exact Int.le_refl _
  · have hi := (List.getElem?_eq_some_iff.1 hr)
    have hj := (List.getElem?_eq_some_iff.1 hq)
    have := List.pairwise_iff_getElem.1 h i j (by simpa using hi.1) (by simpa using hj.1) (by omega)
    rw [List.getElem_map, List.getElem_map, hi.2, hj.2] at this
    omega

def BinP (rs : List Row3) (id : Int) (w : World) (e : Ending) (w' : World) : Prop :=
  ∃ (i : Nat) (f : Bool), e = .returned (.tuple #[.int .i64 (i : Int), .bool f]) ∧ i ≤ rs.length ∧ (∀ r ∈ rs.take i, r.1 < id) ∧ (∀ r ∈ rs.drop i, id ≤ r.1) ∧ Below w.heap.size w w'
theorem BinP.mk {rs : List Row3} {id : Int} {w w' : World} {e : Ending} (i : Nat) (f : Bool) (h : e = .returned (.tuple #[.int .i64 (i : Int), .bool f])) (h1 : i ≤ rs.length) (h2 : ∀ r ∈ rs.take i, r.1 < id) (h3 : ∀ r ∈ rs.drop i, id ≤ r.1) (h4 : Below w.heap.size w w') : BinP rs id w e w' := ⟨i, f, h, h1, h2, h3, h4⟩
set_option maxHeartbeats 3200000 in
set_option maxRecDepth 100000 in
theorem tbin_any (rs : List Row3) (v : Value) (id : Int) (w : World) (hr : RdR w v rs) (hs : (rs.map (·.1)).Pairwise (· < ·)) (hl : rs.length ≤ 1000) :
    Calls Tryz.prog 72 #[v, .int .i64 id, .func (.func 73) #[] #[]] w (BinP rs id w) := by
  obtain ⟨ro, rcap, rfl, -, -⟩ := RdR.split hr
  have HR := hid hr
  have HS := hid hs
  have HL := hid hl
  have C1 := hid (fun (a : Int) (u : Value) (W : World) => tins1_any a id u W)
  have n0 : (0 : Int) ≤ (rs.length : Int) := by omega
  have n1 : (rs.length : Int) ≤ 1000 := by omega
  clear hr hs hl
  go_enter Tryz.func72, Tryz.ntmps72
  go_wp2_with fail
  go_loopw [9, 10] (fun s9 s10 wr => ∃ lo hi : Nat, s9 = .int .i64 lo ∧ s10 = .int .i64 hi ∧ lo ≤ hi ∧ hi ≤ rs.length ∧ Hid ((∀ (k : Nat) (r : Row3), k < lo → rs[k]? = some r → r.1 < id) ∧ (∀ (k : Nat) (r : Row3), hi ≤ k → rs[k]? = some r → id ≤ r.1)) ∧ Below w.heap.size w wr) (fun s9 s10 _ => (intOf s10).toNat - (intOf s9).toNat)
  case atStart => exact ⟨0, rs.length, rfl, rfl, Nat.zero_le _, Nat.le_refl _, hid ⟨fun k r h => absurd h (by omega), fun k r h hr => absurd (List.getElem?_eq_some_iff.1 hr).1 (by omega)⟩, Below.refl _ _⟩
  case round =>
    obtain ⟨lo, hi, rfl, rfl, hlh, hin, HI, hnx⟩ := hrel
    have NX := hid hnx
    have RR := hid (HR.out.below hnx)
    have l0 : (0 : Int) ≤ (lo : Int) := by omega
    have l1 : (lo : Int) ≤ 1000 := by have := HL.out; omega
    have h0 : (0 : Int) ≤ (hi : Int) := by omega
    have h1 : (hi : Int) ≤ 1000 := by have := HL.out; omega
    by_cases hlt : lo < hi
    · obtain ⟨m, hm⟩ : ∃ m, (lo + hi) / 2 = m := ⟨_, rfl⟩
      have hm1 : lo ≤ m ∧ m < hi := by omega
      have hmi : ((lo : Int) + (hi : Int)) / 2 = (m : Int) := by omega
      obtain ⟨⟨xid, xu, xs⟩, hx⟩ := get_some (show m < rs.length by omega)
      obtain ⟨b, off, rfl, e0, e1, -⟩ := RR.out.at hx
      simp only at e0 e1
      have HX := hid hx
      have m0 : (0 : Int) ≤ (m : Int) := by omega
      have m1 : (m : Int) < (rs.length : Int) := by omega
      have CC := hid (C1.out xid xu wr)
      by_cases hq : xid < id
      · have hc : cmpJ xid id < 0 := (cmpJ_neg _ _).2 hq
        have HN := hid (show (∀ (k : Nat) (r : Row3), k < m + 1 → rs[k]? = some r → r.1 < id) from fun k r hk hr => by
          have := asc_at HS.out hr HX.out (show k ≤ m by omega)
          simp only at this; omega)
        generalize cmpJ xid id = cj at *
        clear hx hnx hm
        go_wp2_with fail
        refine CC.out.mono ?_
        rintro e w2 ⟨rfl, hb2⟩
        have NX2 := hid (NX.out.trans (hb2.mono NX.out.size))
        clear hb2 e0 e1
        go_wp2_with fail
        go_roundw
        case rel => exact ⟨m + 1, hi, by go_num, rfl, by omega, hin, hid ⟨HN.out, HI.out.2⟩, NX2.out⟩
        case measure => simp [intOf]; omega
      · have hc : ¬ cmpJ xid id < 0 := fun h => hq ((cmpJ_neg _ _).1 h)
        have HN := hid (show (∀ (k : Nat) (r : Row3), m ≤ k → rs[k]? = some r → id ≤ r.1) from fun k r hk hr => by
          have := asc_at HS.out HX.out hr hk
          simp only at this; omega)
        generalize cmpJ xid id = cj at *
        clear hx hnx hm
        go_wp2_with fail
        refine CC.out.mono ?_
        rintro e w2 ⟨rfl, hb2⟩
        have NX2 := hid (NX.out.trans (hb2.mono NX.out.size))
        clear hb2 e0 e1
        go_wp2_with fail
        go_roundw
        case rel => exact ⟨lo, m, rfl, by go_num, by omega, by omega, hid ⟨HI.out.1, HN.out⟩, NX2.out⟩
        case measure => simp [intOf]; omega
    · obtain rfl : lo = hi := by omega
      have P1 := hid (show ∀ r ∈ rs.take lo, r.1 < id from fun r hr => by
        obtain ⟨k, hk⟩ := List.mem_iff_getElem?.1 hr
        rw [List.getElem?_take] at hk
        split at hk
        · exact HI.out.1 k r (by assumption) hk
        · cases hk)
      have P2 := hid (show ∀ r ∈ rs.drop lo, id ≤ r.1 from fun r hr => by
        obtain ⟨k, hk⟩ := List.mem_iff_getElem?.1 hr
        rw [List.getElem?_drop] at hk
        exact HI.out.2 (lo + k) r (by omega) hk)
      have HIN := hid hin
      by_cases hend : lo < rs.length
      · obtain ⟨⟨xid, xu, xs⟩, hx⟩ := get_some hend
        obtain ⟨b, off, rfl, e0, e1, -⟩ := RR.out.at hx
        simp only at e0 e1
        have CC := hid (C1.out xid xu wr)
        have m1 : (lo : Int) < (rs.length : Int) := by omega
        generalize cmpJ xid id = cj at *
        clear hx hnx HI
        go_wp2_with fail
        refine CC.out.mono ?_
        rintro e w2 ⟨rfl, hb2⟩
        have NX2 := hid (NX.out.trans (hb2.mono NX.out.size))
        clear hb2 e0 e1
        go_wp2_with fail
        go_ret2
        exact BinP.mk lo _ rfl HIN.out P1.out P2.out NX2.out
      · have m1 : ¬ (lo : Int) < (rs.length : Int) := by omega
        clear HI hnx
        go_wp2_with fail
        go_ret2
        exact BinP.mk lo _ rfl HIN.out P1.out P2.out NX.out

end Go.Proofs.YtdiafhbbmliefaaGreatDoor


/- The walk of slices.Insert of one row into rows of the call's own. -/
namespace Go.Proofs.YtdiafhbbmliefaaGreatDoor
open Go.RowKit
set_option linter.unusedVariables false

theorem run_copy_cells2 {P : Program} (w : World) (dT sT ty elem : TypeId) (b o dLen dCap : Nat) (a : Addr) (sLen sCap m : Nat) (cs : List Value)
    (hu : P.underlying dT = some (.slice elem)) (hs : (P.info? elem).map (·.size) = some 2) (hm : Nat.min sLen dLen = m) (hn : cs.length = m * 2)
    (hsrc : ∀ j v, cs[j]? = some v → w.cell? (a.add j) = some v) (hc : ∀ j, j < cs.length → (w.cell? ⟨b, o + j, none⟩).isSome = true) (hf : ∀ j, j < cs.length → w.frozen? ⟨b, o + j, none⟩ = false) (h1 : ∀ v ∈ cs, v.oneCell' = true) :
    (Builtin.copy_ #[dT, sT] ty #[.slice (some ⟨b, o, none⟩) dLen dCap, .slice (some a) sLen sCap]).run P w = .ok (goInt m) (w.setCells b o cs) := by
  have hl := run_firstCells_some (P := P) (w := w) 2 m a sLen sCap cs hn hsrc
  have hst := run_storeCells_cells (P := P) b o cs 0 w (by simpa using hc) (by simpa using hf) h1
  cases hq : P.info? elem with
  | none => simp [hq] at hs
  | some i =>
    have hi : i.size = 2 := by simpa [hq] using hs
    simp [Builtin.copy_, run_underlying hu, Builtin.lenOf, sizeOf, typeInfo, hq, hi, hm, hl, hst]

section
variable {w : World} {B : Nat} {e : TypeId} {g n cap : Nat} {xs : List Value}
theorem own_setCellsI {size : Nat} : ∀ (cs : List Value) (o : Nat) (w : World) (xs : List Value), w.ownsRow B e size (.slice (some ⟨g, 0, none⟩) n cap) n xs → o + cs.length ≤ xs.length →
    (w.setCells g o cs).ownsRow B e size (.slice (some ⟨g, 0, none⟩) n cap) n (xs.take o ++ cs ++ xs.drop (o + cs.length)) ∧ w.grownBy (w.setCells g o cs) (some g) := by
  intro cs
  induction cs with
  | nil =>
    intro o w xs h hl
    refine ⟨?_, World.grownBy.refl _ _⟩
    show w.ownsRow B e size _ n _
    simpa using h
  | cons c cs ih =>
    intro o w xs h hl
    obtain ⟨h1, h2⟩ := h.stored o c
    rw [List.length_cons] at hl
    obtain ⟨h3, h4⟩ := ih (o + 1) _ _ h1 (by rw [List.length_set]; omega)
    refine ⟨?_, grow_trans' h2 h4⟩
    have e1 : (xs.set o c).take (o + 1) = xs.take o ++ [c] := by
      rw [List.take_set, List.set_eq_take_append_cons_drop, if_pos (by rw [List.length_take]; omega), List.take_take, show min o (o + 1) = o by omega, List.drop_of_length_le (by rw [List.length_take]; omega)]
    have e2 : (xs.set o c).drop (o + 1 + cs.length) = xs.drop (o + (cs.length + 1)) := by
      rw [List.drop_set, if_pos (by omega), show o + 1 + cs.length = o + (cs.length + 1) by omega]
    rw [e1, e2] at h3
    rw [List.length_cons, show w.setCells g o (c :: cs) = (w.setCell ⟨g, o, none⟩ c).setCells g (o + 1) cs from rfl]
    simpa using h3
/-- One more element, out of the spare cells. -/
theorem own_room (h : w.ownsRow B e 2 (.slice (some ⟨g, 0, none⟩) n cap) n xs) (hr : n + 1 ≤ cap) : ∃ a b, w.ownsRow B e 2 (.slice (some ⟨g, 0, none⟩) (n + 1) cap) (n + 1) (xs ++ [a, b]) := by
  rcases h.2 with ⟨h', _⟩ | ⟨g', cap', cur, h', hb, hg, hnc, hcm, hcs, htake⟩
  · simp at h'
  · simp only [Value.slice.injEq, Option.some.injEq, Addr.mk.injEq, and_true, true_and] at h'
    obtain ⟨rfl, rfl⟩ := h'
    have hl : n * 2 + 1 < cur.toList.length := by rw [Array.length_toList, hcs]; omega
    refine ⟨cur.toList[n * 2], cur.toList[n * 2 + 1], by rw [List.length_append, h.1]; simp; omega, .inr ⟨g, cap, cur, rfl, hb, hg, by omega, hcm, hcs, ?_⟩⟩
    rw [show (n + 1) * 2 = n * 2 + 1 + 1 by omega, List.take_succ_eq_append_getElem hl, List.take_succ_eq_append_getElem (by omega), htake]
    simp
theorem own_cap (h : w.ownsRow B e 2 (.slice (some ⟨g, 0, none⟩) n cap) n xs) : n ≤ cap ∧ cap ≤ maxLen ∧ B ≤ g ∧ g < w.heap.size ∧ (∃ cur, w.heap[g]? = some (.cells cur e (0, 0)) ∧ cur.size = cap * 2) := by
  rcases h.2 with ⟨h', _⟩ | ⟨g', cap', cur, h', hb, hg, hnc, hcm, hcs, htake⟩
  · simp at h'
  · simp only [Value.slice.injEq, Option.some.injEq, Addr.mk.injEq, and_true, true_and] at h'
    obtain ⟨rfl, rfl⟩ := h'
    exact ⟨hnc, hcm, hb, (Array.getElem?_eq_some_iff.1 hg).1, cur, hg, hcs⟩
end
theorem flatR_len (rs : List Row3) : (rs.flatMap cR).length = rs.length * 2 := flat_length cR_length rs
theorem flatR_take (rs : List Row3) (i : Nat) (hi : i ≤ rs.length) : (rs.flatMap cR).take (i * 2) = (rs.take i).flatMap cR := by
  have : rs.flatMap cR = (rs.take i).flatMap cR ++ (rs.drop i).flatMap cR := by rw [← List.flatMap_append, List.take_append_drop]
  rw [this, List.take_left' (by rw [flatR_len, List.length_take]; omega)]
theorem flatR_drop (rs : List Row3) (i : Nat) (hi : i ≤ rs.length) : (rs.flatMap cR).drop (i * 2) = (rs.drop i).flatMap cR := by
  have : rs.flatMap cR = (rs.take i).flatMap cR ++ (rs.drop i).flatMap cR := by rw [← List.flatMap_append, List.take_append_drop]
  rw [this, List.drop_left' (by rw [flatR_len, List.length_take]; omega)]
theorem flatR_one {rs : List Row3} (h : ∀ r ∈ rs, r.2.1.oneCell' = true) : ∀ u ∈ rs.flatMap cR, u.oneCell' = true := by
  intro u hu
  obtain ⟨r, hr, hu⟩ := List.mem_flatMap.1 hu
  simp only [cR, List.mem_cons, List.not_mem_nil, or_false] at hu
  rcases hu with rfl | rfl
  · rfl
  · exact h r hr
/-- What Insert leaves. -/
def InsP (rs : List Row3) (y : Row3) (i M : Nat) (tv : Value) (w : World) (e : Ending) (w' : World) : Prop :=
  ∃ v', e = .returned v' ∧ w'.ownsRow M 44 2 v' (rs.take i ++ y :: rs.drop i).length ((rs.take i ++ y :: rs.drop i).flatMap cR) ∧ w.grownBy w' tv.ownBlock
theorem sizeRowK : (Tryz.prog.info? 44).map (·.size) = some 2 := by kernel_rfl

set_option maxHeartbeats 6400000 in
set_option maxRecDepth 100000 in
theorem insW_room (i n cap g vb : Nat) (w W1 : World) (ys : List Value) (v1 v2 : Value) (hlt : i < n) (hn : n ≤ 1000) (hroom : n + 1 ≤ cap) (hcm : cap ≤ maxLen)
    (HOV : ∀ lb cb, (callFunc 108 #[.slice (some ⟨vb, 0, none⟩) 1 1, .slice (some ⟨g, (i + 1) * 2, none⟩) lb cb]).run Tryz.prog w = .ok (.value (.bool false)) w)
    (HC1 : ∀ ty dc sc, (Builtin.copy_ #[46, 46] ty #[.slice (some ⟨g, (i + 1) * 2, none⟩) (n - i) dc, .slice (some ⟨g, i * 2, none⟩) (n + 1 - i) sc]).run Tryz.prog w.drew = .ok v1 W1)
    (HC2 : ∀ (W : World), (∀ x, W.cell? x = W1.cell? x) → (∀ x, W.frozen? x = W1.frozen? x) → ∀ ty dc, (Builtin.copy_ #[46, 46] ty #[.slice (some ⟨g, i * 2, none⟩) (n + 1 - i) dc, .slice (some ⟨vb, 0, none⟩) 1 1]).run Tryz.prog W = .ok v2 (W.setCells g (i * 2) ys)) :
    Calls Tryz.prog 74 #[.slice (some ⟨g, 0, none⟩) n cap, .int .i64 (i : Int), .slice (some ⟨vb, 0, none⟩) 1 1] w fun e w' => e = .returned (.slice (some ⟨g, 0, none⟩) (n + 1) cap) ∧ w' = W1.setCells g (i * 2) ys := by
  have mixed : Tryz.prog.follows Departure.mixedOrders = true := by kernel_rfl
  have n1 : (n : Int) ≤ 1000 := by omega
  have i0 : (0 : Int) ≤ (i : Int) := by omega
  have hz2 : ¬ ((i : Int) = (n : Int)) := by omega
  have c63 : (cap : Int) ≤ 9223372036854775807 := by unfold maxLen at hcm; omega
  have hw1 : IntKind.i64.wrap ((i : Int) + 1) = (i : Int) + 1 := by rw [IntKind.wrap_i64]; omega
  have hb1 : (0 : Int) ≤ (i : Int) + 1 := by omega
  have htn : ((i : Int) + 1).toNat = i + 1 := by omega
  have hb2 : ¬ (cap = i + 1) := by omega
  have hb3 : (i : Int) ≤ (n : Int) + 1 := by omega
  have hb4 : ¬ (cap = i) := by omega
  have hb5 : ¬ ((cap : Int) < (n : Int) + 1) := by omega
  have hb6 : (n : Int) + 1 ≤ (cap : Int) := by omega
  have hb7 : (i : Int) + 1 ≤ (n : Int) + 1 := by omega
  have hb8 : ((n : Int) + 1).toNat = n + 1 := by omega
  go_enter Tryz.func74, Tryz.ntmps74
  go_wp2_with (simp only [HOV])
  go_region_law_o (refine step_copy_runI rfl _ _ 46 46 rfl _ _ (by simp [Act.eval, Act.put]) (by simp [Act.eval, Act.put]) (HC1 _ _ _) ?_)
  go_wp2_with (at_builtin; refine wpList_copy_runI _ rfl _ _ 46 46 rfl _ _ rfl rfl (HC2 _ (fun _ => rfl) (fun _ => rfl) _ _) ?_)
  go_ret
  exact ⟨rfl, rfl⟩

set_option maxHeartbeats 6400000 in
set_option maxRecDepth 100000 in
theorem insW_grow (i n g vb G : Nat) (w W1 W2 : World) (zs : List Value) (v1 v2 : Value) (hlt : i < n) (hn : n ≤ 1000) (hGn : n + 1 ≤ G) (hGc : G ≤ maxLen)
    (HRZ : ∀ ty, (Builtin.append_ #[46, 3] ty #[.slice (some ⟨g, 0, none⟩) i n, .int .i64 ((n : Int) + 1 - (i : Int))]).run Tryz.prog w = .ok (.slice (some ⟨w.heap.size, 0, none⟩) (n + 1) G) W1)
    (HC1 : ∀ ty dc, (Builtin.copy_ #[46, 46] ty #[.slice (some ⟨w.heap.size, i * 2, none⟩) (n + 1 - i) dc, .slice (some ⟨vb, 0, none⟩) 1 1]).run Tryz.prog W1 = .ok v1 W2)
    (HC2 : ∀ (W : World), (∀ x, W.cell? x = W2.cell? x) → (∀ x, W.frozen? x = W2.frozen? x) → ∀ ty dc sc, (Builtin.copy_ #[46, 46] ty #[.slice (some ⟨w.heap.size, (i + 1) * 2, none⟩) (n - i) dc, .slice (some ⟨g, i * 2, none⟩) (n - i) sc]).run Tryz.prog W = .ok v2 (W.setCells w.heap.size ((i + 1) * 2) zs)) :
    Calls Tryz.prog 74 #[.slice (some ⟨g, 0, none⟩) n n, .int .i64 (i : Int), .slice (some ⟨vb, 0, none⟩) 1 1] w fun e w' => e = .returned (.slice (some ⟨w.heap.size, 0, none⟩) (n + 1) G) ∧ w' = W2.drew.setCells w.heap.size ((i + 1) * 2) zs := by
  have mixed : Tryz.prog.follows Departure.mixedOrders = true := by kernel_rfl
  have n1 : (n : Int) ≤ 1000 := by omega
  have i0 : (0 : Int) ≤ (i : Int) := by omega
  have hz2 : ¬ ((i : Int) = (n : Int)) := by omega
  have hw1 : IntKind.i64.wrap ((i : Int) + 1) = (i : Int) + 1 := by rw [IntKind.wrap_i64]; omega
  have hb1 : (0 : Int) ≤ (i : Int) + 1 := by omega
  have htn : ((i : Int) + 1).toNat = i + 1 := by omega
  have hGi : ¬ (G = i) := by omega
  have hGim : ¬ (G = i + 1) := by omega
  have hci : ¬ (n = i) := by omega
  have hG63 : (G : Int) ≤ 9223372036854775807 := by unfold maxLen at hGc; omega
  have hb5 : (n : Int) < (n : Int) + 1 := by omega
  have hb7 : (i : Int) + 1 ≤ (n : Int) + 1 := by omega
  have hb3 : (i : Int) ≤ (n : Int) + 1 := by omega
  have hb9 : (i : Int) ≤ (n : Int) := by omega
  go_enter Tryz.func74, Tryz.ntmps74
  go_wp2_with (first | (at_builtin; refine Lib.wpList_append_run _ rfl _ _ _ _ rfl _ _ rfl rfl _ _ (HRZ _) ?_) | (at_builtin; refine wpList_copy_runI _ rfl _ _ 46 46 rfl _ _ rfl rfl (HC1 _ _) ?_))
  go_region_law_o (refine step_copy_runI rfl _ _ 46 46 rfl (.slice (some ⟨w.heap.size, (i + 1) * 2, none⟩) (n - i) (G - (i + 1))) (.slice (some ⟨g, i * 2, none⟩) (n - i) (n - i)) (by simp [Act.eval, Act.put]) (by simp [Act.eval, Act.put]) (HC2 W2.drew (fun _ => rfl) (fun _ => rfl) 3 (G - (i + 1)) (n - i)) ?_)
  go_wp2_with fail
  go_ret
  exact ⟨rfl, rfl⟩

set_option maxHeartbeats 6400000 in
set_option maxRecDepth 100000 in
theorem tinsR_any (rs : List Row3) (y : Row3) (i M vb : Nat) (tv : Value) (w : World) (ho : w.ownsRow M 44 2 tv rs.length (rs.flatMap cR)) (hM : M ≤ w.heap.size) (hi : i ≤ rs.length) (hl : rs.length ≤ 1000)
    (h1 : ∀ r ∈ rs, r.2.1.oneCell' = true) (hy1 : y.2.1.oneCell' = true) (hv : w.heap[vb]? = some (.cells #[.int .i64 y.1, y.2.1] 44 (0, 0))) (hvb : tv.ownBlock ≠ some vb) :
    Calls Tryz.prog 74 #[tv, .int .i64 (i : Int), .slice (some ⟨vb, 0, none⟩) 1 1] w (InsP rs y i M tv w) := by
  have hvlt : vb < w.heap.size := (Array.getElem?_eq_some_iff.1 hv).1
  have v0 : w.cell? ⟨vb, 0, none⟩ = some (.int .i64 y.1) := by simp [World.cell?, hv]
  have v1 : w.cell? ⟨vb, 1, none⟩ = some y.2.1 := by simp [World.cell?, hv]
  have vsrc : ∀ j u, [Value.int .i64 y.1, y.2.1][j]? = some u → w.cell? ((⟨vb, 0, none⟩ : Addr).add j) = some u := by
    intro j u hj
    have hj2 : j < 2 := (List.getElem?_eq_some_iff.1 hj).1
    rw [Addr.add_lit, Nat.zero_add]
    rcases (show j = 0 ∨ j = 1 by omega) with rfl | rfl
    · simp at hj; subst hj; exact v0
    · simp at hj; subst hj; exact v1
  by_cases hend : i = rs.length
  · subst hend
    obtain ⟨ao, cap, hta⟩ : ∃ ao cap, tv = .slice ao rs.length cap := by
      obtain ⟨ao, cap, e, -⟩ := RdC.of_owns cR_length ho (by omega); exact ⟨_, _, e⟩
    have HO := hid ho
    have hcap : rs.length ≤ cap := by obtain ⟨ao', cap', e, h, -⟩ := RdC.of_owns cR_length ho (by omega); rw [hta] at e; cases e; exact h
    have n0 : (0 : Int) ≤ (rs.length : Int) := by omega
    have hE := hid (show (rs.take rs.length ++ y :: rs.drop rs.length) = rs ++ [y] by simp)
    have HV := hid vsrc
    have H1 := hid (show ∀ u ∈ cR y, u.oneCell' = true from by intro u hu; simp only [cR, List.mem_cons, List.not_mem_nil, or_false] at hu; rcases hu with rfl | rfl <;> first | rfl | exact hy1)
    have HM := hid hM
    have HL := hid hl
    subst hta
    clear ho hv vsrc h1 hy1 hM hl hvb
    by_cases hce : cap = rs.length
    · subst hce
      go_enter Tryz.func74, Tryz.ntmps74
      go_wp2_with (at_builtin; refine wpList_pushB rfl _ _ 46 rfl M 44 (.agg #[.int .i64 0, .slice none 0 0]) 2 32 undRows infoRow rfl (by decide) (by decide) cR cR_length _ rs rfl HO.out ⟨vb, 0, none⟩ y H1.out rfl HV.out (by have := HL.out; omega) HM.out ?_)
      intro v' w2 hown hg _
      have O2 := hid hown
      have G2 := hid hg
      clear hown hg
      go_wp2_with fail
      go_ret
      exact ⟨_, rfl, by rw [hE.out]; simpa using O2.out, G2.out⟩
    · have hce2 : ¬ (rs.length = cap) := fun e => hce e.symm
      go_enter Tryz.func74, Tryz.ntmps74
      go_wp2_with (at_builtin; refine wpList_pushB rfl _ _ 46 rfl M 44 (.agg #[.int .i64 0, .slice none 0 0]) 2 32 undRows infoRow rfl (by decide) (by decide) cR cR_length _ rs rfl HO.out ⟨vb, 0, none⟩ y H1.out rfl HV.out (by have := HL.out; omega) HM.out ?_)
      intro v' w2 hown hg _
      have O2 := hid hown
      have G2 := hid hg
      clear hown hg
      go_wp2_with fail
      go_ret
      exact ⟨_, rfl, by rw [hE.out]; simpa using O2.out, G2.out⟩
  · have hlt : i < rs.length := by omega
    obtain ⟨g, cap, rfl⟩ : ∃ g cap, tv = .slice (some ⟨g, 0, none⟩) rs.length cap := by
      rcases ho.2 with ⟨-, h⟩ | ⟨g, cap, cur, rfl, -⟩
      · omega
      · exact ⟨g, cap, rfl⟩
    obtain ⟨hnc, hcm, hMg, hgl, cur, hgc, hcs⟩ := own_cap ho
    have hgv : vb ≠ g := fun e => hvb (by rw [e]; rfl)
    have n1 : (rs.length : Int) ≤ 1000 := by omega
    have i0 : (0 : Int) ≤ (i : Int) := by omega
    have hz2 : ¬ ((i : Int) = (rs.length : Int)) := by omega
    have c63 : (cap : Int) ≤ 9223372036854775807 := by unfold maxLen at hcm; omega
    have hcc : ∀ j, j < rs.length * 2 → w.cell? ⟨g, j, none⟩ = (rs.flatMap cR)[j]? := fun j hj => ho.cellAt j hj
    have hff : ∀ j, w.frozen? ⟨g, j, none⟩ = false := fun j => by simp [World.frozen?, hgc]
    have hdl : ((rs.drop i).flatMap cR).length = (rs.length - i) * 2 := by rw [flatR_len, List.length_drop]
    have hd1 : ∀ u ∈ (rs.drop i).flatMap cR, u.oneCell' = true := flatR_one fun r hr => h1 r (List.mem_of_mem_drop hr)
    have hsrc : ∀ j u, ((rs.drop i).flatMap cR)[j]? = some u → w.cell? ⟨g, i * 2 + j, none⟩ = some u := by
      intro j u hj
      rw [← flatR_drop rs i hi, List.getElem?_drop] at hj
      rw [hcc _ (by have := (List.getElem?_eq_some_iff.1 hj).1; rw [flatR_len] at this; omega)]
      exact hj
    have hgoal : (rs.take i ++ y :: rs.drop i).flatMap cR = (rs.take i).flatMap cR ++ [.int .i64 y.1, y.2.1] ++ (rs.drop i).flatMap cR := by
      rw [List.flatMap_append, List.flatMap_cons]; simp [cR]
    have hglen : (rs.take i ++ y :: rs.drop i).length = rs.length + 1 := by rw [List.length_append, List.length_cons, List.length_take, List.length_drop]; omega
    by_cases hroom : rs.length + 1 ≤ cap
    · -- in place
      obtain ⟨qa, qb, hor⟩ := own_room ho hroom
      have hcr : ∀ j, j < (rs.length + 1) * 2 → (w.cell? ⟨g, j, none⟩).isSome = true := fun j hj => by rw [hor.cellAt j hj, List.getElem?_eq_getElem (by rw [hor.1]; omega)]; rfl
      have HOV := hid (show ∀ lb cb, (callFunc 108 #[.slice (some ⟨vb, 0, none⟩) 1 1, .slice (some ⟨g, (i + 1) * 2, none⟩) lb cb]).run Tryz.prog w = .ok (.value (.bool false)) w from fun lb cb => by
        rw [run_callFunc_extern Tryz.func108 (by kernel_rfl) (by kernel_rfl) (by kernel_rfl) (e := Extern.SlicesOverlaps.overlaps #[46, 46] #[4]) (by kernel_rfl),
          Lib.run_overlaps_apart w 46 4 44 undRows 2 (fun _ => by kernel_rfl) ⟨vb, 0, none⟩ ⟨g, (i + 1) * 2, none⟩ 1 1 lb cb hgv 44 44 2 (cap * 2) (by simp [World.shape?, hv]) (by simp [World.shape?, hgc, hcs]) (by omega) (by simp [World.frozen?, hv]) (by simp [World.frozen?, hv])]
        rfl)
      have HC1 := hid (show ∀ ty dc sc, (Builtin.copy_ #[46, 46] ty #[.slice (some ⟨g, (i + 1) * 2, none⟩) (rs.length - i) dc, .slice (some ⟨g, i * 2, none⟩) (rs.length + 1 - i) sc]).run Tryz.prog w.drew = .ok (goInt ((rs.length - i : Nat) : Int)) (w.drew.setCells g ((i + 1) * 2) ((rs.drop i).flatMap cR)) from fun ty dc sc =>
        run_copy_cells2 w.drew _ _ ty 44 g ((i + 1) * 2) _ dc ⟨g, i * 2, none⟩ _ sc (rs.length - i) ((rs.drop i).flatMap cR) undRows sizeRowK (by simp only [Nat.min_def]; split <;> omega) hdl
          (fun j u hj => by rw [Addr.add_lit]; exact hsrc j u hj) (fun j hj => hcr _ (by rw [hdl] at hj; omega)) (fun j _ => hff _) hd1)
      have hod := hor.drew
      obtain ⟨hO1, hG1⟩ := own_setCellsI ((rs.drop i).flatMap cR) ((i + 1) * 2) w.drew _ hod (by rw [hor.1, hdl]; omega)
      obtain ⟨W1, hW1⟩ : ∃ W1, w.drew.setCells g ((i + 1) * 2) ((rs.drop i).flatMap cR) = W1 := ⟨_, rfl⟩
      rw [hW1] at hO1 hG1 HC1
      have hv1 : ∀ j u, [Value.int .i64 y.1, y.2.1][j]? = some u → W1.cell? ((⟨vb, 0, none⟩ : Addr).add j) = some u := fun j u hj => by
        have e := hG1.cell_far ((⟨vb, 0, none⟩ : Addr).add j) (by rw [Addr.add_lit]; exact hvlt) (by rw [Addr.add_lit]; simp; exact hgv)
        rw [e]; exact vsrc j u hj
      have HC2 := hid (show ∀ (W : World), (∀ x, W.cell? x = W1.cell? x) → (∀ x, W.frozen? x = W1.frozen? x) → ∀ ty dc, (Builtin.copy_ #[46, 46] ty #[.slice (some ⟨g, i * 2, none⟩) (rs.length + 1 - i) dc, .slice (some ⟨vb, 0, none⟩) 1 1]).run Tryz.prog W = .ok (goInt 1) (W.setCells g (i * 2) [.int .i64 y.1, y.2.1]) from fun W hWc hWf ty dc =>
        run_copy_cells2 W _ _ ty 44 g (i * 2) _ dc ⟨vb, 0, none⟩ 1 1 1 [.int .i64 y.1, y.2.1] undRows sizeRowK (by simp only [Nat.min_def]; split <;> omega) rfl
          (fun j u hj => by rw [hWc]; exact hv1 j u hj) (fun j hj => by rw [hWc, hO1.cellAt _ (by simp at hj; omega), List.getElem?_eq_getElem (by rw [hO1.1]; simp at hj; omega)]; rfl)
          (fun j _ => by
            rw [hWf]
            rw [← hW1, World.frozen?_setCells]; exact hff _) (by intro u hu; simp only [List.mem_cons, List.not_mem_nil, or_false] at hu; rcases hu with rfl | rfl <;> first | rfl | exact hy1))
      obtain ⟨hO2, hG2⟩ := own_setCellsI [.int .i64 y.1, y.2.1] (i * 2) W1 _ hO1 (by rw [hO1.1]; simp; omega)
      have HF := hid (show (W1.setCells g (i * 2) [.int .i64 y.1, y.2.1]).ownsRow M 44 2 (.slice (some ⟨g, 0, none⟩) (rs.length + 1) cap) (rs.take i ++ y :: rs.drop i).length ((rs.take i ++ y :: rs.drop i).flatMap cR) from by
        rw [hglen, hgoal]
        have e0 : (rs.flatMap cR ++ [qa, qb]).length = (rs.length + 1) * 2 := hor.1
        have e1 : (rs.flatMap cR ++ [qa, qb]).drop ((i + 1) * 2 + ((rs.drop i).flatMap cR).length) = [] := List.drop_of_length_le (by rw [e0, hdl]; omega)
        rw [e1, List.append_nil] at hO2
        have el : ((rs.flatMap cR ++ [qa, qb]).take ((i + 1) * 2)).length = (i + 1) * 2 := by rw [List.length_take, e0]; omega
        have e2 : ((rs.flatMap cR ++ [qa, qb]).take ((i + 1) * 2) ++ (rs.drop i).flatMap cR).take (i * 2) = (rs.take i).flatMap cR := by
          rw [List.take_append_of_le_length (by rw [el]; omega), List.take_take, show min (i * 2) ((i + 1) * 2) = i * 2 by omega, List.take_append_of_le_length (by rw [flatR_len]; omega), flatR_take rs i hi]
        have e3 : ((rs.flatMap cR ++ [qa, qb]).take ((i + 1) * 2) ++ (rs.drop i).flatMap cR).drop (i * 2 + [Value.int .i64 y.1, y.2.1].length) = (rs.drop i).flatMap cR := by
          rw [show i * 2 + [Value.int .i64 y.1, y.2.1].length = (i + 1) * 2 by simp; omega, List.drop_left' el]
        rw [e2, e3] at hO2
        exact hO2)
      have HG := hid (show w.grownBy (W1.setCells g (i * 2) [.int .i64 y.1, y.2.1]) (some g) from grow_trans' (grow_trans' (grow_of_below (below_drewN w.heap.size w 1)) hG1) hG2)
      refine (insW_room i rs.length cap g vb w W1 [.int .i64 y.1, y.2.1] _ _ hlt hl hroom hcm HOV.out HC1.out HC2.out).mono fun e w' ⟨he, hw⟩ => ?_
      subst hw
      exact ⟨_, he, HF.out, HG.out⟩
    · -- a new row
      obtain rfl : cap = rs.length := by omega
      obtain ⟨i0', hi0, hz0, hz1, hz3⟩ := info_parts infoRow
      have hkk : (rs.length : Int) + 1 - (i : Int) = ((rs.length + 1 - i : Nat) : Int) := by omega
      have hik : i + (rs.length + 1 - i) = rs.length + 1 := by omega
      have hold : (Builtin.firstCells i0'.size i (.slice (some ⟨g, 0, none⟩) i rs.length)).run Tryz.prog w.drew = .ok ((rs.take i).flatMap cR).toArray w.drew := by
        rw [hz1]
        refine run_firstCells_some (P := Tryz.prog) (w := w.drew) 2 i ⟨g, 0, none⟩ i rs.length _ (by rw [flatR_len, List.length_take]; omega) fun j u hj => ?_
        rw [Addr.add_lit, Nat.zero_add]
        show w.cell? _ = _
        have hj2 := (List.getElem?_eq_some_iff.1 hj).1
        rw [flatR_len, List.length_take] at hj2
        rw [hcc j (by omega)]
        rw [← flatR_take rs i hi, List.getElem?_take] at hj
        split at hj
        · exact hj
        · cases hj
      have HRZ := hid (show ∀ ty, (Builtin.append_ #[46, 3] ty #[.slice (some ⟨g, 0, none⟩) i rs.length, .int .i64 ((rs.length : Int) + 1 - (i : Int))]).run Tryz.prog w =
          .ok (.slice (some ⟨w.heap.size, 0, none⟩) (rs.length + 1) (grownCap w (rs.length + 1) rs.length 44)) (w.drew.alloc (.cells (((rs.take i).flatMap cR).toArray ++ Builtin.zeroCells (Value.agg #[.int .i64 0, .slice none 0 0]).cells (rs.length + 1 - i) ++ Builtin.zeroCells (Value.agg #[.int .i64 0, .slice none 0 0]).cells (grownCap w (rs.length + 1) rs.length 44 - (rs.length + 1))) 44)) from fun ty => by
        have h := Lib.run_append_grow_zeros w 46 3 ty 44 i0' (.agg #[.int .i64 0, .slice none 0 0]) .i64 .i64 undRows (by kernel_rfl) hi0 hz0 (some ⟨g, 0, none⟩) i rs.length _ hold (rs.length + 1 - i) (by omega) (by omega) (by omega) (by omega) (by rw [hz3]; omega) (by rw [hz3, hik]; exact growslice_fits (by omega) (by omega))
        rw [hik] at h
        rw [hkk]
        exact h)
      have hGc : grownCap w (rs.length + 1) rs.length 44 ≤ maxLen := grownCap_le_maxLen w _ _ _ (by unfold maxLen; omega)
      have hGn : rs.length + 1 ≤ grownCap w (rs.length + 1) rs.length 44 := grownCap_ge w _ _ _
      obtain ⟨G, hG⟩ : ∃ G, grownCap w (rs.length + 1) rs.length 44 = G := ⟨_, rfl⟩
      rw [hG] at HRZ hGc hGn
      obtain ⟨ROW, hROW⟩ : ∃ ROW, ((rs.take i).flatMap cR).toArray ++ Builtin.zeroCells (Value.agg #[.int .i64 0, .slice none 0 0]).cells (rs.length + 1 - i) ++ Builtin.zeroCells (Value.agg #[.int .i64 0, .slice none 0 0]).cells (G - (rs.length + 1)) = ROW := ⟨_, rfl⟩
      rw [hROW] at HRZ
      have hRs : ROW.size = G * 2 := by
        rw [← hROW, Array.size_append, Array.size_append, size_zeroCells, size_zeroCells, show (Value.agg #[.int .i64 0, .slice none 0 0]).cells.size = 2 from rfl]
        simp only [List.size_toArray, flatR_len, List.length_take]
        omega
      have hRt : ROW.toList.take (i * 2) = (rs.take i).flatMap cR := by
        rw [← hROW]
        simp only [Array.toList_append, List.append_assoc]
        rw [List.take_left' (by rw [flatR_len, List.length_take]; omega)]
      obtain ⟨W1, hW1⟩ : ∃ W1, w.drew.alloc (.cells ROW 44) = W1 := ⟨_, rfl⟩
      rw [hW1] at HRZ
      have hB1 : Below w.heap.size w W1 := by rw [← hW1]; exact (Below.refl _ w).drew.alloc (Nat.le_refl _) _
      have hO0 : W1.ownsRow w.heap.size 44 2 (.slice (some ⟨w.heap.size, 0, none⟩) (rs.length + 1) G) (rs.length + 1) (ROW.toList.take ((rs.length + 1) * 2)) := by
        refine ⟨by rw [List.length_take, show ROW.toList.length = G * 2 by rw [Array.length_toList]; exact hRs]; omega, .inr ⟨w.heap.size, G, ROW, rfl, Nat.le_refl _, ?_, hGn, hGc, hRs, rfl⟩⟩
        rw [← hW1]
        show (w.heap.push (.cells ROW 44))[w.heap.size]? = _
        simp
      have hfN : ∀ j, W1.frozen? ⟨w.heap.size, j, none⟩ = false := fun j => by
        rw [← hW1]; exact World.frozen?_alloc_new w.drew ROW 44 j
      have hv1 : ∀ j u, [Value.int .i64 y.1, y.2.1][j]? = some u → W1.cell? ((⟨vb, 0, none⟩ : Addr).add j) = some u := fun j u hj => by
        have e := hB1.cell (p := (⟨vb, 0, none⟩ : Addr).add j) (by rw [Addr.add_lit]; exact hvlt)
        rw [e]; exact vsrc j u hj
      have HC1 := hid (show ∀ ty dc, (Builtin.copy_ #[46, 46] ty #[.slice (some ⟨w.heap.size, i * 2, none⟩) (rs.length + 1 - i) dc, .slice (some ⟨vb, 0, none⟩) 1 1]).run Tryz.prog W1 = .ok (goInt 1) (W1.setCells w.heap.size (i * 2) [.int .i64 y.1, y.2.1]) from fun ty dc =>
        run_copy_cells2 W1 _ _ ty 44 w.heap.size (i * 2) _ dc ⟨vb, 0, none⟩ 1 1 1 [.int .i64 y.1, y.2.1] undRows sizeRowK (by simp only [Nat.min_def]; split <;> omega) rfl
          hv1 (fun j hj => by rw [hO0.cellAt _ (by simp at hj; omega), List.getElem?_eq_getElem (by rw [hO0.1]; simp at hj; omega)]; rfl)
          (fun j _ => hfN _) (by intro u hu; simp only [List.mem_cons, List.not_mem_nil, or_false] at hu; rcases hu with rfl | rfl <;> first | rfl | exact hy1))
      obtain ⟨hO1, hG1⟩ := own_setCellsI [.int .i64 y.1, y.2.1] (i * 2) W1 _ hO0 (by rw [hO0.1]; simp; omega)
      obtain ⟨W2, hW2⟩ : ∃ W2, W1.setCells w.heap.size (i * 2) [.int .i64 y.1, y.2.1] = W2 := ⟨_, rfl⟩
      rw [hW2] at hO1 hG1 HC1
      have hs2 : ∀ j u, ((rs.drop i).flatMap cR)[j]? = some u → W2.cell? ⟨g, i * 2 + j, none⟩ = some u := fun j u hj => by
        have hj3 := hsrc j u hj
        have e := hG1.cell_far ⟨g, i * 2 + j, none⟩ (by have := hB1.size; show g < _; omega) (by simp; omega)
        rw [e, hB1.cell (p := ⟨g, i * 2 + j, none⟩) hgl]; exact hj3
      have HC2 := hid (show ∀ (W : World), (∀ x, W.cell? x = W2.cell? x) → (∀ x, W.frozen? x = W2.frozen? x) → ∀ ty dc sc, (Builtin.copy_ #[46, 46] ty #[.slice (some ⟨w.heap.size, (i + 1) * 2, none⟩) (rs.length - i) dc, .slice (some ⟨g, i * 2, none⟩) (rs.length - i) sc]).run Tryz.prog W = .ok (goInt ((rs.length - i : Nat) : Int)) (W.setCells w.heap.size ((i + 1) * 2) ((rs.drop i).flatMap cR)) from fun W hWc hWf ty dc sc =>
        run_copy_cells2 W _ _ ty 44 w.heap.size ((i + 1) * 2) _ dc ⟨g, i * 2, none⟩ _ sc (rs.length - i) ((rs.drop i).flatMap cR) undRows sizeRowK (by simp only [Nat.min_def]; split <;> omega) hdl
          (fun j u hj => by rw [Addr.add_lit, hWc]; exact hs2 j u hj) (fun j hj => by rw [hWc, hO1.cellAt _ (by rw [hdl] at hj; omega), List.getElem?_eq_getElem (by rw [hO1.1]; rw [hdl] at hj; omega)]; rfl)
          (fun j _ => by rw [hWf, ← hW2, World.frozen?_setCells]; exact hfN _) hd1)
      have hOd := hO1.drew
      obtain ⟨hO2, hG2⟩ := own_setCellsI ((rs.drop i).flatMap cR) ((i + 1) * 2) W2.drew _ hOd (by rw [hO1.1, hdl]; omega)
      have HF := hid (show (W2.drew.setCells w.heap.size ((i + 1) * 2) ((rs.drop i).flatMap cR)).ownsRow M 44 2 (.slice (some ⟨w.heap.size, 0, none⟩) (rs.length + 1) G) (rs.take i ++ y :: rs.drop i).length ((rs.take i ++ y :: rs.drop i).flatMap cR) from by
        rw [hglen, hgoal]
        have e0 : (ROW.toList.take ((rs.length + 1) * 2)).length = (rs.length + 1) * 2 := hO0.1
        have et : (ROW.toList.take ((rs.length + 1) * 2)).take (i * 2) = (rs.take i).flatMap cR := by rw [List.take_take, show min (i * 2) ((rs.length + 1) * 2) = i * 2 by omega, hRt]
        rw [et] at hO2
        have e1 : ((rs.take i).flatMap cR ++ [Value.int .i64 y.1, y.2.1] ++ (ROW.toList.take ((rs.length + 1) * 2)).drop (i * 2 + [Value.int .i64 y.1, y.2.1].length)).take ((i + 1) * 2) = (rs.take i).flatMap cR ++ [Value.int .i64 y.1, y.2.1] :=
          List.take_left' (by rw [List.length_append, flatR_len, List.length_take]; simp; omega)
        have e2 : ((rs.take i).flatMap cR ++ [Value.int .i64 y.1, y.2.1] ++ (ROW.toList.take ((rs.length + 1) * 2)).drop (i * 2 + [Value.int .i64 y.1, y.2.1].length)).drop ((i + 1) * 2 + ((rs.drop i).flatMap cR).length) = [] :=
          List.drop_of_length_le (by rw [List.length_append, List.length_append, List.length_drop, e0, flatR_len, List.length_take, hdl]; simp; omega)
        rw [e1, e2, List.append_nil] at hO2
        exact own_mono hO2 hM)
      have HG := hid (show w.grownBy (W2.drew.setCells w.heap.size ((i + 1) * 2) ((rs.drop i).flatMap cR)) (some g) from by
        have q1 : w.grownBy W1 (some g) := grow_of_below hB1
        have q2 : w.grownBy W2 (some g) := grow_appM q1 hG1 (fun j hj => by cases hj; exact Nat.le_refl _)
        have q3 : w.grownBy W2.drew (some g) := grow_trans' q2 (grow_of_below (below_drewN W2.heap.size W2 1))
        exact grow_appM q3 hG2 (fun j hj => by cases hj; exact Nat.le_refl _))
      refine (insW_grow i rs.length g vb G w W1 W2 ((rs.drop i).flatMap cR) _ _ hlt hl hGn hGc HRZ.out HC1.out HC2.out).mono fun e w' ⟨he, hw⟩ => ?_
      subst hw
      exact ⟨_, he, HF.out, HG.out⟩

end Go.Proofs.YtdiafhbbmliefaaGreatDoor


/- The walk of table.Insert. -/
namespace Go.Proofs.YtdiafhbbmliefaaGreatDoor
open Go.RowKit
set_option linter.unusedVariables false

theorem far_ne {w : World} {B n : Nat} {e : TypeId} {size : Nat} {v : Value} {xs : List Value} {o : Option Nat} (h : w.ownsRow B e size v n xs) (hne : v.ownBlock = none ∨ v.ownBlock ≠ o) : FarV v o := by
  intro a len cap e1 hl e2
  rcases h.2 with ⟨rfl, -⟩ | ⟨g, cap', cur, e3, -⟩
  · cases e1
  · rw [e3] at e1; cases e1
    rw [e3] at hne
    rcases hne with h1 | h1
    · cases h1
    · exact h1 (by rw [e2]; rfl)
/-- What a successful insertion leaves. -/
def InsT (w w' : World) (t : T3) (id : Int) (ys : List V3) (av' rv' : Value) : Prop :=
  ∃ (a b : List Row3) (u' : Value), cpAs t.2.2 (a ++ b) ∧ RdT w' av' rv' (t.1, t.2.1, a ++ (id, u', ys) :: b) ∧ FreT w.heap.size av' rv' (a ++ (id, u', ys) :: b) ∧ (∀ r ∈ a, r.1 < id) ∧ (∀ r ∈ b, id < r.1) ∧ 0 < id ∧ ys.length = t.2.1.length ∧ ys.any badV = false
def InsQ (t : T3) (id : Int) (ys : List V3) (w : World) (e : Ending) (w' : World) : Prop :=
  ∃ (n' : ByteArray) (av' rv' : Value) (x : Int), e = .returned (.tuple #[.agg #[.string n', av', rv'], .int .i64 x]) ∧ (x = 0 → n' = t.1 ∧ InsT w w' t id ys av' rv') ∧ (x ≠ 0 → av' = .slice none 0 0 ∧ rv' = .slice none 0 0) ∧ Below w.heap.size w w'
theorem cpAs.ids {rs rs' : List Row3} (h : cpAs rs rs') : rs'.map (·.1) = rs.map (·.1) := by
  have := congrArg (List.map Prod.fst) h
  simpa [List.map_map, Function.comp_def] using this
theorem own_sliceK {w : World} {B n size : Nat} {e : TypeId} {v : Value} {xs : List Value} (h : w.ownsRow B e size v n xs) : ∃ ao n cap, v = .slice ao n cap := by
  rcases h.2 with ⟨rfl, -⟩ | ⟨g, cap, cur, rfl, -⟩
  · exact ⟨_, _, _, rfl⟩
  · exact ⟨_, _, _, rfl⟩
theorem fnd_none {rs : List Row3} {id : Int} (h : fnd rs id = none) : ∀ r ∈ rs, r.1 ≠ id := by
  have key : ∀ (rs : List Row3) (n : Nat), fndFrom n rs id = none → ∀ r ∈ rs, r.1 ≠ id := by
    intro rs
    induction rs with
    | nil => intro n _ r hr; cases hr
    | cons q rs ih =>
      intro n h r hr
      unfold fndFrom at h
      split at h
      · cases h
      · rename_i h1
        rcases List.mem_cons.1 hr with rfl | hr
        · simpa using h1
        · exact ih _ h r hr
  exact key rs 0 h

set_option maxHeartbeats 12800000 in
set_option maxRecDepth 100000 in
theorem tinsert_any (t : T3) (av rv u : Value) (id : Int) (ys : List V3) (w : World) (ht : RdT w av rv t) (hu : RdV w u ys) (hk : tabE t = 0) (hl : t.2.2.length ≤ 900) (hyl : ys.length ≤ 1000) :
    Calls Tryz.prog 33 #[.agg #[.string t.1, av, rv], .agg #[.int .i64 id, u]] w (InsQ t id ys w) := by
  obtain ⟨hnb, h16, h1000, hab, hrow⟩ := tabE_iff.1 hk
  obtain ⟨hasc, hvals⟩ := rowsE_iff.1 hrow
  have b1 := below_alloc w (.cells #[.string t.1, av, rv] 48)
  obtain ⟨c0, c1, c2⟩ := cells3 (w := w) (a := .string t.1) (b := av) (c := rv) (t := 48) _ (Below.refl _ _)
  have s1 : (w.alloc (.cells #[.string t.1, av, rv] 48)).heap.size = w.heap.size + 1 := by simp
  obtain ⟨w1, hw1⟩ : ∃ w1 : World, w.alloc (.cells #[.string t.1, av, rv] 48) = w1 := ⟨_, rfl⟩
  rw [hw1] at b1 c0 c1 c2 s1
  have b2 := below_alloc w1 (.cells #[.int .i64 id, u] 44)
  obtain ⟨d0, d1⟩ := cells2 (w := w1) (a := .int .i64 id) (b := u) (t := 44) _ (Below.refl _ _)
  have s2 : (w1.alloc (.cells #[.int .i64 id, u] 44)).heap.size = w1.heap.size + 1 := by simp
  obtain ⟨w2, hw2⟩ : ∃ w2 : World, w1.alloc (.cells #[.int .i64 id, u] 44) = w2 := ⟨_, rfl⟩
  rw [hw2] at b2 d0 d1 s2
  have b3 := below_alloc w2 (.cells #[.string (ByteArray.mk #[]), .slice none 0 0, .slice none 0 0] 48)
  obtain ⟨z0, z1, z2⟩ := cells3 (w := w2) (a := .string (ByteArray.mk #[])) (b := .slice none 0 0) (c := .slice none 0 0) (t := 48) _ (Below.refl _ _)
  have zf : ∀ j, (w2.alloc (.cells #[.string (ByteArray.mk #[]), .slice none 0 0, .slice none 0 0] 48)).frozen? ⟨w2.heap.size, j, none⟩ = false := fun j => by simp
  have s3 : (w2.alloc (.cells #[.string (ByteArray.mk #[]), .slice none 0 0, .slice none 0 0] 48)).heap.size = w2.heap.size + 1 := by simp
  obtain ⟨w3, hw3⟩ : ∃ w3 : World, w2.alloc (.cells #[.string (ByteArray.mk #[]), .slice none 0 0, .slice none 0 0] 48) = w3 := ⟨_, rfl⟩
  rw [hw3] at b3 z0 z1 z2 zf s3
  rw [s1] at d0 d1
  rw [s2, s1] at z0 z1 z2 zf
  have B3 := hid ((b1.trans (b2.mono b1.size)).trans (b3.mono (Nat.le_trans b1.size b2.size)))
  have S3 := hid (show w3.heap.size = w.heap.size + 3 by omega)
  have KK := hid (fun (W : World) (h : Below w3.heap.size w3 W) => show (W.cell? ⟨w.heap.size, 0, none⟩ = some (.string t.1) ∧ W.cell? ⟨w.heap.size, 1, none⟩ = some av ∧ W.cell? ⟨w.heap.size, 2, none⟩ = some rv) ∧ (W.cell? ⟨w.heap.size + 1, 0, none⟩ = some (.int .i64 id) ∧ W.cell? ⟨w.heap.size + 1, 1, none⟩ = some u) ∧ (W.cell? ⟨w.heap.size + 1 + 1, 0, none⟩ = some (.string (ByteArray.mk #[])) ∧ W.cell? ⟨w.heap.size + 1 + 1, 1, none⟩ = some (.slice none 0 0) ∧ W.cell? ⟨w.heap.size + 1 + 1, 2, none⟩ = some (.slice none 0 0)) ∧ ∀ j, j < 3 → W.frozen? ⟨w.heap.size + 1 + 1, j, none⟩ = false from by
    have k1 : ∀ (o : Nat) (v : Value), w1.cell? ⟨w.heap.size, o, none⟩ = some v → W.cell? ⟨w.heap.size, o, none⟩ = some v := fun o v hv => (h.cell (p := ⟨w.heap.size, o, none⟩) (by show w.heap.size < _; omega)).trans ((b3.cell (p := ⟨w.heap.size, o, none⟩) (by show w.heap.size < _; omega)).trans ((b2.cell (p := ⟨w.heap.size, o, none⟩) (by show w.heap.size < _; omega)).trans hv))
    have k2 : ∀ (o : Nat) (v : Value), w2.cell? ⟨w.heap.size + 1, o, none⟩ = some v → W.cell? ⟨w.heap.size + 1, o, none⟩ = some v := fun o v hv => (h.cell (p := ⟨w.heap.size + 1, o, none⟩) (by show w.heap.size + 1 < _; omega)).trans ((b3.cell (p := ⟨w.heap.size + 1, o, none⟩) (by show w.heap.size + 1 < _; omega)).trans hv)
    have k3 : ∀ (o : Nat) (v : Value), w3.cell? ⟨w.heap.size + 1 + 1, o, none⟩ = some v → W.cell? ⟨w.heap.size + 1 + 1, o, none⟩ = some v := fun o v hv => (h.cell (p := ⟨w.heap.size + 1 + 1, o, none⟩) (by show w.heap.size + 1 + 1 < _; omega)).trans hv
    exact ⟨⟨k1 _ _ c0, k1 _ _ c1, k1 _ _ c2⟩, ⟨k2 _ _ d0, k2 _ _ d1⟩, ⟨k3 _ _ z0, k3 _ _ z1, k3 _ _ z2⟩, fun j _ => (h.frozen (p := ⟨w.heap.size + 1 + 1, j, none⟩) (by show w.heap.size + 1 + 1 < _; omega)).trans (zf j)⟩)
  have T3 := hid (ht.below B3.out)
  have U3 := hid (RdC.below hu B3.out)
  have WW := hid (show ((w.alloc (.cells #[.string t.1, av, rv] 48)).alloc (.cells #[.int .i64 id, u] 44)).alloc (.cells #[.string (ByteArray.mk #[]), .slice none 0 0, .slice none 0 0] 48) = w3 by rw [hw1, hw2, hw3])
  have TV := hid (fun (W : World) (h : Below w3.heap.size w3 W) => tvalid_any t av rv W (T3.out.below h))
  rw [hk] at TV
  have FI := hid (fun (W : World) (h : Below w3.heap.size w3 W) => find_any t av rv id W (T3.out.below h))
  have VV := hid (fun (W : World) (h : Below w3.heap.size w3 W) => validValues_any ys u W (RdC.below U3.out h))
  have TW := hid (fun (W : World) (h : Below w3.heap.size w3 W) => twith_any t.1 t.2.1 av rv t.2.2 rv W (T3.out.1.below h) (T3.out.2.below h) (by omega) h1000 (fun r hr => by rw [(hvals r hr).1]; omega))
  have CP := hid (fun (W : World) (h : Below w3.heap.size w3 W) => tcopied_any id ys u W (RdC.below U3.out h) hyl)
  have HVAL := hid hvals
  have HASC := hid (List.pairwise_cons.1 hasc).2
  have HL9 := hid hl
  have H16 := hid h16
  have HYL := hid hyl
  obtain ⟨ao, acap, hva, -⟩ := T3.out.1.split
  obtain ⟨ro, rcap, hvr, -⟩ := RdR.split T3.out.2
  obtain ⟨uo, ucap, hvu, -⟩ := RdV.split U3.out
  obtain ⟨nm, ats, rs⟩ := t
  simp only at hva hvr
  subst hva hvr hvu
  replace HL9 : Hid (rs.length ≤ 900) := hid HL9.out
  replace H16 : Hid (ats.length ≤ 16) := hid H16.out
  replace HVAL : Hid (∀ r ∈ rs, r.2.2.length = ats.length ∧ r.2.2.any badV = false) := hid HVAL.out
  replace HASC : Hid ((rs.map (·.1)).Pairwise (· < ·)) := hid HASC.out
  obtain ⟨⟨c0', c1', c2'⟩, ⟨d0', d1'⟩, ⟨z0', z1', z2'⟩, zf'⟩ := KK.out w3 (Below.refl _ _)
  have l1 : (ats.length : Int) ≤ 16 := by have := H16.out; omega
  have l2 : (rs.length : Int) ≤ 900 := by have := HL9.out; omega
  have l3 : (ys.length : Int) ≤ 1000 := by omega
  have l4 : decide ((rs.length : Int) ≥ 1000) = false := by rw [decide_eq_false_iff_not]; omega
  clear ht hu hk hl hyl hnb h16 h1000 hab hrow hasc hvals b1 b2 b3 c0 c1 c2 d0 d1 z0 z1 z2 zf s1 s2 s3 hw1 hw2 hw3
  rw [← WW.out] at c0' c1' c2'
  go_enter Tryz.func33, Tryz.ntmps33
  go_wp2_with fail
  rw [WW.out]
  clear c0' c1' c2' d0' d1' z0' z1' z2' zf'
  refine (TV.out _ (Below.refl _ _)).mono ?_
  rintro e w4 ⟨rfl, hb4⟩
  have B4 := hid hb4
  obtain ⟨⟨c0, c1, c2⟩, ⟨d0, d1⟩, ⟨z0, z1, z2⟩, zf⟩ := KK.out w4 hb4
  clear hb4
  go_wp2_with fail
  refine (FI.out _ B4.out).mono ?_
  rintro e w5 ⟨rfl, hb5⟩
  have B5 := hid (B4.out.trans (hb5.mono B4.out.size))
  clear hb5 c0 c1 c2 d0 d1 z0 z1 z2 zf
  obtain ⟨⟨c0, c1, c2⟩, ⟨d0, d1⟩, ⟨z0, z1, z2⟩, zf⟩ := KK.out w5 B5.out
  have zf0 := zf 0 (by omega)
  have zf1 := zf 1 (by omega)
  have zf2 := zf 2 (by omega)
  have BF := hid (fun (W : World) (h : Below w3.heap.size w3 W) => show Below w.heap.size w W from B3.out.trans (h.mono (by have := S3.out; omega)))
  have EQ := hid (fun (W : World) (x : Int) (hx : x ≠ 0) (h : Below w.heap.size w W) => show InsQ (nm, ats, rs) id ys w (.returned (.tuple #[.agg #[.string (ByteArray.mk #[]), .slice none 0 0, .slice none 0 0], .int .i64 x])) W from ⟨_, _, _, x, rfl, fun h0 => absurd h0 hx, fun _ => ⟨rfl, rfl⟩, h⟩)
  have ER := hid (fun (W : World) (h : Below w3.heap.size w3 W) => show ((((W.setCell ⟨w.heap.size + 1 + 1, 0, none⟩ (.string (ByteArray.mk #[]))).setCell ⟨w.heap.size + 1 + 1, 1, none⟩ (.slice none 0 0)).setCell ⟨w.heap.size + 1 + 1, 2, none⟩ (.slice none 0 0)).cell? ⟨w.heap.size + 1 + 1, 0, none⟩ = some (.string (ByteArray.mk #[])) ∧ (((W.setCell ⟨w.heap.size + 1 + 1, 0, none⟩ (.string (ByteArray.mk #[]))).setCell ⟨w.heap.size + 1 + 1, 1, none⟩ (.slice none 0 0)).setCell ⟨w.heap.size + 1 + 1, 2, none⟩ (.slice none 0 0)).cell? ⟨w.heap.size + 1 + 1, 1, none⟩ = some (.slice none 0 0) ∧ (((W.setCell ⟨w.heap.size + 1 + 1, 0, none⟩ (.string (ByteArray.mk #[]))).setCell ⟨w.heap.size + 1 + 1, 1, none⟩ (.slice none 0 0)).setCell ⟨w.heap.size + 1 + 1, 2, none⟩ (.slice none 0 0)).cell? ⟨w.heap.size + 1 + 1, 2, none⟩ = some (.slice none 0 0)) ∧ Below w.heap.size w (((W.setCell ⟨w.heap.size + 1 + 1, 0, none⟩ (.string (ByteArray.mk #[]))).setCell ⟨w.heap.size + 1 + 1, 1, none⟩ (.slice none 0 0)).setCell ⟨w.heap.size + 1 + 1, 2, none⟩ (.slice none 0 0)) from by
    obtain ⟨-, -, ⟨y0, y1, y2⟩, -⟩ := KK.out W h
    exact ⟨set3w y0 y1 y2 rfl, (((BF.out W h).setCell (p := ⟨w.heap.size + 1 + 1, 0, none⟩) (by simp; omega) _).setCell (p := ⟨w.heap.size + 1 + 1, 1, none⟩) (by simp; omega) _).setCell (p := ⟨w.heap.size + 1 + 1, 2, none⟩) (by simp; omega) _⟩)
  try simp only at c0 c1 c2
  obtain ⟨fo, hfo⟩ : ∃ fo, fnd (nm, ats, rs).2.2 id = fo := ⟨_, rfl⟩
  rw [hfo]
  have HFO := hid hfo
  clear hfo FI zf
  have FV := hid (show ∃ (k : Int) (kb : Bool), fndV fo = .tuple #[.int .i64 k, .bool kb] ∧ (kb = false → fo = none) from by
    cases fo with
    | none => exact ⟨0, false, rfl, fun _ => rfl⟩
    | some k => exact ⟨k, true, rfl, fun h => by cases h⟩)
  obtain ⟨fk, kb, hfv, hkb⟩ := FV.out
  rw [hfv]
  have KB := hid hkb
  clear hfv hkb FV
  by_cases hle : ys.length = ats.length
  · have HLE := hid hle
    have q1 : ((ys.length : Int) != (ats.length : Int)) = false := by rw [hle]; simp
    have q1' : ((ys.length : Int) == (ats.length : Int)) = true := by rw [hle]; simp
    clear hle
    by_cases hid0 : id ≤ 0
    · clear KB
      go_wp2_with fail
      obtain ⟨⟨r0, r1, r2⟩, hB⟩ := ER.out w5 B5.out
      have EE := EQ.out _ 1 (by decide) hB
      generalize ((w5.setCell ⟨w.heap.size + 1 + 1, 0, none⟩ (.string (ByteArray.mk #[]))).setCell ⟨w.heap.size + 1 + 1, 1, none⟩ (.slice none 0 0)).setCell ⟨w.heap.size + 1 + 1, 2, none⟩ (.slice none 0 0) = wf at *
      exact bodyPost_ret (v := .tuple #[.agg #[.string (ByteArray.mk #[]), .slice none 0 0, .slice none 0 0], .int .i64 1]) (by simp [results, Tryz.results33, go_sem, r0, r1, r2]) rfl EE
    · have VC := hid (VV.out _ B5.out)
      cases hbad : ys.any badV with
      | true =>
        rw [hbad] at VC
        clear hbad KB
        go_wp2_with fail
        refine VC.out.mono ?_
        rintro e w6 ⟨rfl, hb6⟩
        have B6 := hid (B5.out.trans (hb6.mono B5.out.size))
        obtain ⟨⟨c0', c1', c2'⟩, ⟨d0', d1'⟩, ⟨z0', z1', z2'⟩, zf'⟩ := KK.out w6 B6.out
        have zf0' := zf' 0 (by omega)
        have zf1' := zf' 1 (by omega)
        have zf2' := zf' 2 (by omega)
        obtain ⟨⟨r0, r1, r2⟩, hB⟩ := ER.out w6 B6.out
        have EE := hid (EQ.out _ 1 (by decide) hB)
        clear hb6 hB c0 c1 c2 d0 d1 z0 z1 z2 zf0 zf1 zf2 zf'
        go_wp2_with fail
        have EE2 := EE.out
        clear EE
        generalize ((w6.setCell ⟨w.heap.size + 1 + 1, 0, none⟩ (.string (ByteArray.mk #[]))).setCell ⟨w.heap.size + 1 + 1, 1, none⟩ (.slice none 0 0)).setCell ⟨w.heap.size + 1 + 1, 2, none⟩ (.slice none 0 0) = wf at *
        exact bodyPost_ret (v := .tuple #[.agg #[.string (ByteArray.mk #[]), .slice none 0 0, .slice none 0 0], .int .i64 1]) (by simp [results, Tryz.results33, go_sem, r0, r1, r2]) rfl EE2
      | false =>
        have HBAD := hid hbad
        rw [hbad] at VC
        clear hbad
        go_wp2_with fail
        refine VC.out.mono ?_
        rintro e w6 ⟨rfl, hb6⟩
        have B6 := hid (B5.out.trans (hb6.mono B5.out.size))
        obtain ⟨⟨c0', c1', c2'⟩, ⟨d0', d1'⟩, ⟨z0', z1', z2'⟩, zf'⟩ := KK.out w6 B6.out
        try simp only at c0' c1' c2'
        have zf0' := zf' 0 (by omega)
        have zf1' := zf' 1 (by omega)
        have zf2' := zf' 2 (by omega)
        obtain ⟨⟨r0, r1, r2⟩, hB⟩ := ER.out w6 B6.out
        have EE := hid (And.intro r0 (And.intro r1 (And.intro r2 (EQ.out _ 5 (by decide) hB))))
        clear hb6 hB c0 c1 c2 d0 d1 z0 z1 z2 zf0 zf1 zf2 zf' r0 r1 r2 VC VV
        cases kb with
        | true =>
          go_wp2_with fail
          obtain ⟨r0, r1, r2, EE2⟩ := EE.out
          clear EE
          generalize ((w6.setCell ⟨w.heap.size + 1 + 1, 0, none⟩ (.string (ByteArray.mk #[]))).setCell ⟨w.heap.size + 1 + 1, 1, none⟩ (.slice none 0 0)).setCell ⟨w.heap.size + 1 + 1, 2, none⟩ (.slice none 0 0) = wf at *
          exact bodyPost_ret (v := .tuple #[.agg #[.string (ByteArray.mk #[]), .slice none 0 0, .slice none 0 0], .int .i64 5]) (by simp [results, Tryz.results33, go_sem, r0, r1, r2]) rfl EE2
        | false =>
          have HNF := hid (show fnd rs id = none from by rw [← KB.out rfl]; exact HFO.out)
          have TWC := hid (TW.out _ B6.out)
          try simp only at TWC
          clear EE KB
          go_wp2_with fail
          refine TWC.out.mono ?_
          rintro e w7 ⟨av', tv, rs', M, rfl, hA7, hFA, hLM, hMS, hOT, hCP, hb7⟩
          have B7 := hid (B6.out.trans (hb7.mono B6.out.size))
          have LEN := hid hCP.len
          have VL := hid (hCP.vals (n := 16) (fun r hr => by have := (HVAL.out r hr).1; have := H16.out; omega))
          have IDS := hid (hCP.ids)
          have RD7 := hid (hOT.rd (by have := LEN.out; have := HL9.out; omega) (fun r hr => by have := VL.out r hr; omega))
          obtain ⟨ao7, acap7, rfl, -, -⟩ := hA7.split
          obtain ⟨to7, tcap7, rfl, -, -⟩ := RdR.split RD7.out
          have HA7 := hid hA7
          have HFA := hid hFA
          have HLM := hid hLM
          have HMS := hid hMS
          have HOT := hid hOT
          have HCP := hid hCP
          have BIN := hid (fun (W : World) (h : Below w7.heap.size w7 W) => tbin_any rs' (.slice to7 rs'.length tcap7) id W (RD7.out.below h) (by rw [IDS.out]; exact HASC.out) (by have := LEN.out; have := HL9.out; omega))
          have ONE := hid RD7.out.ones
          obtain ⟨q0, q1c, q2⟩ := cells3 (w := w7) (a := .string nm) (b := .slice ao7 ats.length acap7) (c := .slice to7 rs'.length tcap7) (t := 48) _ (Below.refl _ _)
          have qf : ∀ j, (w7.alloc (.cells #[.string nm, .slice ao7 ats.length acap7, .slice to7 rs'.length tcap7] 48)).frozen? ⟨w7.heap.size, j, none⟩ = false := fun j => by simp
          have qh := heap_alloc_new w7 (.cells #[.string nm, .slice ao7 ats.length acap7, .slice to7 rs'.length tcap7] 48)
          have hb8 := below_alloc w7 (.cells #[.string nm, .slice ao7 ats.length acap7, .slice to7 rs'.length tcap7] 48)
          have hs8 : (w7.alloc (.cells #[.string nm, .slice ao7 ats.length acap7, .slice to7 rs'.length tcap7] 48)).heap.size = w7.heap.size + 1 := by simp
          obtain ⟨w8, hw8⟩ : ∃ w8 : World, w7.alloc (.cells #[.string nm, .slice ao7 ats.length acap7, .slice to7 rs'.length tcap7] 48) = w8 := ⟨_, rfl⟩
          rw [hw8] at q0 q1c q2 qf qh hb8 hs8
          have W8 := hid hw8
          have HB8 := hid hb8
          have S8 := hid hs8
          have B8 := hid (B7.out.trans (hb8.mono B7.out.size))
          have QK := hid (fun (W : World) (h : Below w8.heap.size w8 W) => show (W.cell? ⟨w7.heap.size, 0, none⟩ = some (.string nm) ∧ W.cell? ⟨w7.heap.size, 1, none⟩ = some (.slice ao7 ats.length acap7) ∧ W.cell? ⟨w7.heap.size, 2, none⟩ = some (.slice to7 rs'.length tcap7)) ∧ W.frozen? ⟨w7.heap.size, 2, none⟩ = false ∧ W.heap[w7.heap.size]? = some (.cells #[.string nm, .slice ao7 ats.length acap7, .slice to7 rs'.length tcap7] 48 (0, 0)) from by
            have lt : w7.heap.size < w8.heap.size := by omega
            exact ⟨⟨(h.cell (p := ⟨w7.heap.size, 0, none⟩) lt).trans q0, (h.cell (p := ⟨w7.heap.size, 1, none⟩) lt).trans q1c, (h.cell (p := ⟨w7.heap.size, 2, none⟩) lt).trans q2⟩, (h.frozen (p := ⟨w7.heap.size, 2, none⟩) lt).trans (qf 2), (h.block w7.heap.size lt).trans qh⟩)
          obtain ⟨-, ⟨d0, d1⟩, -, -⟩ := KK.out w8 B8.out
          rw [← W8.out] at q0 q1c q2 d0 d1
          clear hA7 hFA hLM hOT hCP hb7 hb8 hs8 qh qf hw8 c0' c1' c2' d0' d1' z0' z1' z2' zf0' zf1' zf2' TWC TW TV
          go_wp2_with fail
          rw [W8.out]
          refine (BIN.out _ HB8.out).mono ?_
          rintro e w9 ⟨i, f, rfl, hi, hlt, hge, hb9⟩
          have B9 := hid (B8.out.trans (hb9.mono B8.out.size))
          have HB9 := hid hb9
          have HI := hid hi
          have HLT := hid hlt
          have HGE := hid hge
          have i0 : (0 : Int) ≤ (i : Int) := by omega
          have OT9 := hid ((HOT.out.below HB8.out).below hb9)
          obtain ⟨⟨e0, e1, e2⟩, ef, -⟩ := QK.out w9 hb9
          obtain ⟨-, ⟨d0, d1⟩, -, -⟩ := KK.out w9 B9.out
          have LEN9 := hid (fun y : Row3 => show (rs'.take i ++ y :: rs'.drop i).length ≤ 35184372088832 from by
            have := LEN.out; have := HL9.out
            rw [List.length_append, List.length_cons, List.length_take, List.length_drop]; omega)
          clear hb9 hi hlt hge
          have QNE := hid (show some w7.heap.size ≠ (Value.slice to7 rs'.length tcap7).ownBlock from fun e => by have := (HOT.out.rows.lt _ e.symm).2; omega)
          have ZNE := hid (show some (w.heap.size + 1 + 1) ≠ (Value.slice to7 rs'.length tcap7).ownBlock from fun e => by have h1 := (HOT.out.rows.lt _ e.symm).1; have h2 := HLM.out; have h3 := B6.out.size; have h4 := S3.out; omega)
          go_wp2_with fail
          go_region_law (first
            | (go_simp; go_at_call 75; refine (CP.out _ (below_drewN' B9.out 1)).mono ?_; rintro e w10 ⟨v10, rfl, hov, hb10⟩; have hL := (below_drewN w9.heap.size w9 1).trans hb10; obtain ⟨o10, cap10, rfl, -⟩ := RdC.of_owns cV_length hov (by have := HYL.out; omega); obtain ⟨⟨f0, f1, f2⟩, ff, fh⟩ := QK.out w10 (HB9.out.trans (hL.mono HB9.out.size)); have hba := below_alloc w10 (.cells #[.int .i64 id, .slice o10 ys.length cap10] 44); have hLA := hL.trans (hba.mono hL.size); have OTA := hid (OT9.out.below hLA); obtain ⟨⟨f0', f1', f2'⟩, ff', fh'⟩ := QK.out _ (HB9.out.trans (hLA.mono HB9.out.size)); have TI := hid (tinsR_any rs' ((id, .slice o10 ys.length cap10, ys) : Row3) i M w10.heap.size (.slice to7 rs'.length tcap7) (w10.alloc (.cells #[.int .i64 id, .slice o10 ys.length cap10] 44)) OTA.out.rows (by have h1 := HMS.out; have h2 := HB8.out.size; have h3 := HB9.out.size; have h4 := hLA.size; omega) HI.out (by have := LEN.out; have := HL9.out; omega) ONE.out rfl (heap_alloc_new w10 _) (fun e => by have h1 := (OT9.out.rows.lt _ e).2; have h2 := hL.size; omega)); clear hb10)
            | (go_simp; go_at_call 74; refine TI.out.mono ?_; rintro e w11 ⟨v11, rfl, hown11, hg11⟩; obtain ⟨o11, n11, cap11, rfl⟩ := own_sliceK hown11; have g0 := (hg11.cell_far ⟨w7.heap.size, 0, none⟩ (World.block_lt_of_cell? _ _ f0') QNE.out).trans f0'; have g1 := (hg11.cell_far ⟨w7.heap.size, 1, none⟩ (World.block_lt_of_cell? _ _ f1') QNE.out).trans f1'; have g2 := (hg11.cell_far ⟨w7.heap.size, 2, none⟩ (World.block_lt_of_cell? _ _ f2') QNE.out).trans f2'; have gf := (hg11.frozen_far ⟨w7.heap.size, 2, none⟩ (World.block_lt_of_cell? _ _ f2') QNE.out).trans ff'; have gh := (hg11.block w7.heap.size (World.block_lt_of_cell? _ _ f0') QNE.out).trans fh'))
          all_goals
            have hLA3 : Below w3.heap.size w3 (w10.alloc (.cells #[.int .i64 id, .slice o10 ys.length cap10] 44)) := B9.out.trans (hLA.mono B9.out.size)
            obtain ⟨-, -, ⟨y0, y1, y2⟩, yf⟩ := KK.out _ hLA3
            have zlt : w.heap.size + 1 + 1 < (w10.alloc (.cells #[.int .i64 id, .slice o10 ys.length cap10] 44)).heap.size := World.block_lt_of_cell? _ _ y0
            have x0 := (hg11.cell_far ⟨w.heap.size + 1 + 1, 0, none⟩ zlt ZNE.out).trans y0
            have x1 := (hg11.cell_far ⟨w.heap.size + 1 + 1, 1, none⟩ zlt ZNE.out).trans y1
            have x2 := (hg11.cell_far ⟨w.heap.size + 1 + 1, 2, none⟩ zlt ZNE.out).trans y2
            have xf := fun j (hj : j < 3) => (hg11.frozen_far ⟨w.heap.size + 1 + 1, j, none⟩ zlt ZNE.out).trans (yf j hj)
            have zq : w.heap.size + 1 + 1 ≠ w7.heap.size := by have h1 := B7.out.size; have h2 := S3.out; omega
            have k0 : (w11.setCell ⟨w7.heap.size, 2, none⟩ (.slice o11 n11 cap11)).cell? ⟨w.heap.size + 1 + 1, 0, none⟩ = _ := (World.cell?_setCell_other _ _ _ _ (by simp <;> omega)).trans x0
            have k1 : (w11.setCell ⟨w7.heap.size, 2, none⟩ (.slice o11 n11 cap11)).cell? ⟨w.heap.size + 1 + 1, 1, none⟩ = _ := (World.cell?_setCell_other _ _ _ _ (by simp <;> omega)).trans x1
            have k2 : (w11.setCell ⟨w7.heap.size, 2, none⟩ (.slice o11 n11 cap11)).cell? ⟨w.heap.size + 1 + 1, 2, none⟩ = _ := (World.cell?_setCell_other _ _ _ _ (by simp <;> omega)).trans x2
            have kf : ∀ j, j < 3 → (w11.setCell ⟨w7.heap.size, 2, none⟩ (.slice o11 n11 cap11)).frozen? ⟨w.heap.size + 1 + 1, j, none⟩ = false := fun j hj => by rw [World.frozen?_setCell]; exact xf j hj
            have kf0 := kf 0 (by omega)
            have kf1 := kf 1 (by omega)
            have kf2 := kf 2 (by omega)
            have h0 : (w11.setCell ⟨w7.heap.size, 2, none⟩ (.slice o11 n11 cap11)).cell? ⟨w7.heap.size, 0, none⟩ = _ := (World.cell?_setCell_other _ _ _ _ (by simp)).trans g0
            have h1 : (w11.setCell ⟨w7.heap.size, 2, none⟩ (.slice o11 n11 cap11)).cell? ⟨w7.heap.size, 1, none⟩ = _ := (World.cell?_setCell_other _ _ _ _ (by simp)).trans g1
            have h2 : (w11.setCell ⟨w7.heap.size, 2, none⟩ (.slice o11 n11 cap11)).cell? ⟨w7.heap.size, 2, none⟩ = some (.slice o11 n11 cap11) := World.cell?_setCell_same _ _ _ g2
            -- what is read
            have MQ : M ≤ w7.heap.size := HMS.out
            have ZM : w.heap.size + 1 + 1 < M := by have e1 := HLM.out; have e2 := B6.out.size; have e3 := S3.out; omega
            have fq11 : FarV (.slice o11 n11 cap11) (some w7.heap.size) := far_type hown11 gh (by decide)
            have RV11 := RdC.of_owns cR_length hown11 (LEN9.out _)
            have QV := hid (RdC.setFar (p := ⟨w7.heap.size, 2, none⟩) (u := .slice o11 n11 cap11) RV11 fq11)
            have FZ := hid (fun j (hj : j < M) => far_own hown11 hj)
            have QA0 : RdE encT w11 (.slice ao7 ats.length acap7) ats := RdE.grown ((HA7.out.below HB8.out).below (HB9.out.trans (hLA.mono HB9.out.size))) hg11 (by
              cases hob : (Value.slice to7 rs'.length tcap7).ownBlock with
              | none => intro a len cap _ _ e; cases e
              | some j => exact HFA.out j (.inr (HOT.out.rows.lt j hob).1))
            have QA := hid (RdE.setFar (p := ⟨w7.heap.size, 2, none⟩) (u := .slice o11 n11 cap11) QA0 (HFA.out _ (.inr MQ)))
            have QR := hid (show ∀ r ∈ rs', RdV (w11.setCell ⟨w7.heap.size, 2, none⟩ (.slice o11 n11 cap11)) r.2.1 r.2.2 ∧ ∀ j, j < M → FarV r.2.1 (some j) from fun r hr => by
              have e1 := RD7.out.2 r hr
              have e2 : FarV r.2.1 (Value.slice to7 rs'.length tcap7).ownBlock := far_ne (HOT.out.vals r hr) (own_neM (HOT.out.vals r hr) HOT.out.rows (by decide))
              exact ⟨RdC.setFar (RdC.grown (RdC.below (RdC.below e1 HB8.out) (HB9.out.trans (hLA.mono HB9.out.size))) hg11 e2) (RdC.blk e1 (Nat.le_refl _)), fun j hj => far_own (HOT.out.vals r hr) hj⟩)
            have QY := hid (show RdV (w11.setCell ⟨w7.heap.size, 2, none⟩ (.slice o11 n11 cap11)) (.slice o10 ys.length cap10) ys ∧ ∀ j, j < M → FarV (.slice o10 ys.length cap10) (some j) from by
              have e0 : M ≤ w9.heap.size := Nat.le_trans MQ (Nat.le_trans HB8.out.size HB9.out.size)
              have e1 := RdC.below (RdC.of_owns cV_length hov (by have := HYL.out; omega)) hba
              refine ⟨RdC.setFar (RdC.grown e1 hg11 ?_) (far_own hov (by show w7.heap.size < w9.heap.size; have := S8.out; have := HB9.out.size; omega)), fun j hj => far_own hov (by show j < w9.heap.size; omega)⟩
              cases hob : (Value.slice to7 rs'.length tcap7).ownBlock with
              | none => intro a len cap _ _ e; cases e
              | some j => exact far_own hov (by show j < w9.heap.size; have := (OT9.out.rows.lt j hob).2; omega))
            have BB := hid (show Below w.heap.size w (w11.setCell ⟨w7.heap.size, 2, none⟩ (.slice o11 n11 cap11)) from by
              have e1 := BF.out _ hLA3
              have e2 := e1.grown hg11 e1.size (fun j hj => by have := (HOT.out.rows.lt j hj).1; have := ZM; omega)
              exact e2.setCell (p := ⟨w7.heap.size, 2, none⟩) (by show w.heap.size ≤ w7.heap.size; have := ZM; omega) _)
            obtain ⟨w12, hw12⟩ : ∃ w12 : World, w11.setCell ⟨w7.heap.size, 2, none⟩ (.slice o11 n11 cap11) = w12 := ⟨_, rfl⟩
            rw [hw12] at k0 k1 k2 kf0 kf1 kf2 h0 h1 h2 QV QA QR QY BB ⊢
            have HZM := hid ZM
            clear kf xf x0 x1 x2 yf y0 y1 y2 g0 g1 g2 gf gh hw12 QA0 RV11 fq11 hown11 hg11 f0 f1 f2 ff fh f0' f1' f2' ff' fh' hov hba hLA hLA3 hL zlt zq MQ ZM TI
            go_wp2_with fail
            obtain ⟨wf, hwf⟩ : ∃ wf : World, ((w12.setCell ⟨w.heap.size + 1 + 1, 0, none⟩ (.string nm)).setCell ⟨w.heap.size + 1 + 1, 1, none⟩ (.slice ao7 ats.length acap7)).setCell ⟨w.heap.size + 1 + 1, 2, none⟩ (.slice o11 n11 cap11) = wf := ⟨_, rfl⟩
            obtain ⟨r0, r1, r2⟩ := set3w k0 k1 k2 hwf
            have QI : InsQ (nm, ats, rs) id ys w (.returned (.tuple #[.agg #[.string nm, .slice ao7 ats.length acap7, .slice o11 n11 cap11], .int .i64 0])) wf := by
              have zlt3 : w.heap.size + 1 + 1 < w6.heap.size := by have e2 := B6.out.size; have e3 := S3.out; omega
              refine ⟨_, _, _, 0, rfl, fun _ => ⟨rfl, rs'.take i, rs'.drop i, .slice o10 ys.length cap10, by rw [List.take_append_drop]; exact HCP.out, ⟨?_, ?_, ?_⟩, ?_, HLT.out, ?_, by omega, HLE.out, HBAD.out⟩, fun h => absurd rfl h, ?_⟩
              · rw [← hwf]; exact RdE.set3 QA.out (HFA.out _ (.inl zlt3))
              · rw [← hwf]; exact RdC.set3 QV.out (FZ.out _ HZM.out)
              · intro r hr
                rw [← hwf]
                rcases List.mem_append.1 hr with h | h
                · exact RdC.set3 (QR.out r (List.mem_of_mem_take h)).1 ((QR.out r (List.mem_of_mem_take h)).2 _ HZM.out)
                · rcases List.mem_cons.1 h with rfl | h
                  · exact RdC.set3 QY.out.1 (QY.out.2 _ HZM.out)
                  · exact RdC.set3 (QR.out r (List.mem_of_mem_drop h)).1 ((QR.out r (List.mem_of_mem_drop h)).2 _ HZM.out)
              · intro j hj
                have hjM : j < M := by have := HZM.out; omega
                refine ⟨HFA.out j (.inl (by omega)), FZ.out j hjM, fun r hr => ?_⟩
                rcases List.mem_append.1 hr with h | h
                · exact (QR.out r (List.mem_of_mem_take h)).2 j hjM
                · rcases List.mem_cons.1 h with rfl | h
                  · exact QY.out.2 j hjM
                  · exact (QR.out r (List.mem_of_mem_drop h)).2 j hjM
              · intro r hr
                have e1 := HGE.out r hr
                have e2 : r.1 ∈ rs'.map (·.1) := List.mem_map.2 ⟨r, List.mem_of_mem_drop hr, rfl⟩
                rw [IDS.out] at e2
                obtain ⟨p, hp, e3⟩ := List.mem_map.1 e2
                have e4 := fnd_none HNF.out p hp
                omega
              · rw [← hwf]
                exact ((BB.out.setCell (p := ⟨w.heap.size + 1 + 1, 0, none⟩) (by simp; omega) _).setCell (p := ⟨w.heap.size + 1 + 1, 1, none⟩) (by simp; omega) _).setCell (p := ⟨w.heap.size + 1 + 1, 2, none⟩) (by simp; omega) _
            rw [hwf]
            exact bodyPost_ret (v := .tuple #[.agg #[.string nm, .slice ao7 ats.length acap7, .slice o11 n11 cap11], .int .i64 0]) (by simp [results, Tryz.results33, go_sem, r0, r1, r2]) rfl QI
  · have q1 : ((ys.length : Int) != (ats.length : Int)) = true := by simp; omega
    have q1' : ((ys.length : Int) == (ats.length : Int)) = false := by simp; omega
    clear hle KB
    go_wp2_with fail
    obtain ⟨⟨r0, r1, r2⟩, hB⟩ := ER.out w5 B5.out
    have EE := EQ.out _ 6 (by decide) hB
    generalize ((w5.setCell ⟨w.heap.size + 1 + 1, 0, none⟩ (.string (ByteArray.mk #[]))).setCell ⟨w.heap.size + 1 + 1, 1, none⟩ (.slice none 0 0)).setCell ⟨w.heap.size + 1 + 1, 2, none⟩ (.slice none 0 0) = wf at *
    exact bodyPost_ret (v := .tuple #[.agg #[.string (ByteArray.mk #[]), .slice none 0 0, .slice none 0 0], .int .i64 6]) (by simp [results, Tryz.results33, go_sem, r0, r1, r2]) rfl EE

end Go.Proofs.YtdiafhbbmliefaaGreatDoor


/- The walk of table.Delete. -/
namespace Go.Proofs.YtdiafhbbmliefaaGreatDoor
open Go.RowKit
set_option linter.unusedVariables false

/-- What a successful deletion leaves. -/
def DelT (w w' : World) (t : T3) (id : Int) (av' rv' : Value) : Prop :=
  ∃ (i : Nat) (r : Row3) (rs' : List Row3), fnd t.2.2 id = some i ∧ t.2.2[i]? = some r ∧ r.1 = id ∧ cpAs (t.2.2.take i ++ t.2.2.drop (i + 1)) rs' ∧ RdT w' av' rv' (t.1, t.2.1, rs') ∧ FreT w.heap.size av' rv' rs'
def DelQ (t : T3) (id : Int) (w : World) (e : Ending) (w' : World) : Prop :=
  ∃ (n' : ByteArray) (av' rv' : Value) (x : Int), e = .returned (.tuple #[.agg #[.string n', av', rv'], .int .i64 x]) ∧ (x = 0 → n' = t.1 ∧ DelT w w' t id av' rv') ∧ (x ≠ 0 → av' = .slice none 0 0 ∧ rv' = .slice none 0 0) ∧ Below w.heap.size w w'

set_option maxHeartbeats 12800000 in
set_option maxRecDepth 100000 in
theorem tdelete_any (t : T3) (av rv : Value) (id : Int) (w : World) (ht : RdT w av rv t) (hk : tabE t = 0) :
    Calls Tryz.prog 27 #[.agg #[.string t.1, av, rv], .int .i64 id] w (DelQ t id w) := by
  obtain ⟨hnb, h16, h1000, hab, hrow⟩ := tabE_iff.1 hk
  obtain ⟨hasc, hvals⟩ := rowsE_iff.1 hrow
  have b1 := below_alloc w (.cells #[.string t.1, av, rv] 48)
  obtain ⟨c0, c1, c2⟩ := cells3 (w := w) (a := .string t.1) (b := av) (c := rv) (t := 48) _ (Below.refl _ _)
  have s1 : (w.alloc (.cells #[.string t.1, av, rv] 48)).heap.size = w.heap.size + 1 := by simp
  obtain ⟨w2, hw1⟩ : ∃ w1 : World, w.alloc (.cells #[.string t.1, av, rv] 48) = w1 := ⟨_, rfl⟩
  rw [hw1] at b1 c0 c1 c2 s1
  have b3 := below_alloc w2 (.cells #[.string (ByteArray.mk #[]), .slice none 0 0, .slice none 0 0] 48)
  obtain ⟨z0, z1, z2⟩ := cells3 (w := w2) (a := .string (ByteArray.mk #[])) (b := .slice none 0 0) (c := .slice none 0 0) (t := 48) _ (Below.refl _ _)
  have zf : ∀ j, (w2.alloc (.cells #[.string (ByteArray.mk #[]), .slice none 0 0, .slice none 0 0] 48)).frozen? ⟨w2.heap.size, j, none⟩ = false := fun j => by simp
  have s3 : (w2.alloc (.cells #[.string (ByteArray.mk #[]), .slice none 0 0, .slice none 0 0] 48)).heap.size = w2.heap.size + 1 := by simp
  obtain ⟨w3, hw3⟩ : ∃ w3 : World, w2.alloc (.cells #[.string (ByteArray.mk #[]), .slice none 0 0, .slice none 0 0] 48) = w3 := ⟨_, rfl⟩
  rw [hw3] at b3 z0 z1 z2 zf s3
  rw [s1] at z0 z1 z2 zf
  have B3 := hid (b1.trans (b3.mono b1.size))
  have S3 := hid (show w3.heap.size = w.heap.size + 2 by omega)
  have KK := hid (fun (W : World) (h : Below w3.heap.size w3 W) => show (W.cell? ⟨w.heap.size, 0, none⟩ = some (.string t.1) ∧ W.cell? ⟨w.heap.size, 1, none⟩ = some av ∧ W.cell? ⟨w.heap.size, 2, none⟩ = some rv) ∧ (W.cell? ⟨w.heap.size + 1, 0, none⟩ = some (.string (ByteArray.mk #[])) ∧ W.cell? ⟨w.heap.size + 1, 1, none⟩ = some (.slice none 0 0) ∧ W.cell? ⟨w.heap.size + 1, 2, none⟩ = some (.slice none 0 0)) ∧ ∀ j, j < 3 → W.frozen? ⟨w.heap.size + 1, j, none⟩ = false from by
    have k1 : ∀ (o : Nat) (v : Value), w2.cell? ⟨w.heap.size, o, none⟩ = some v → W.cell? ⟨w.heap.size, o, none⟩ = some v := fun o v hv => (h.cell (p := ⟨w.heap.size, o, none⟩) (by show w.heap.size < _; omega)).trans ((b3.cell (p := ⟨w.heap.size, o, none⟩) (by show w.heap.size < _; omega)).trans hv)
    have k3 : ∀ (o : Nat) (v : Value), w3.cell? ⟨w.heap.size + 1, o, none⟩ = some v → W.cell? ⟨w.heap.size + 1, o, none⟩ = some v := fun o v hv => (h.cell (p := ⟨w.heap.size + 1, o, none⟩) (by show w.heap.size + 1 < _; omega)).trans hv
    exact ⟨⟨k1 _ _ c0, k1 _ _ c1, k1 _ _ c2⟩, ⟨k3 _ _ z0, k3 _ _ z1, k3 _ _ z2⟩, fun j _ => (h.frozen (p := ⟨w.heap.size + 1, j, none⟩) (by show w.heap.size + 1 < _; omega)).trans (zf j)⟩)
  have T3 := hid (ht.below B3.out)
  have WW := hid (show (w.alloc (.cells #[.string t.1, av, rv] 48)).alloc (.cells #[.string (ByteArray.mk #[]), .slice none 0 0, .slice none 0 0] 48) = w3 by rw [hw1, hw3])
  have TV := hid (fun (W : World) (h : Below w3.heap.size w3 W) => tvalid_any t av rv W (T3.out.below h))
  rw [hk] at TV
  have FI := hid (fun (W : World) (h : Below w3.heap.size w3 W) => find_any t av rv id W (T3.out.below h))
  have HVL := hid (show ∀ r ∈ t.2.2, r.2.2.length ≤ 1000 from fun r hr => by rw [(hvals r hr).1]; omega)
  have TW := hid (fun (xs : List Row3) (v : Value) (W : World) (h : Below w3.heap.size w3 W) (hx : RdR W v xs) (hxl : xs.length ≤ 1000) (hxv : ∀ r ∈ xs, r.2.2.length ≤ 1000) => twith_any t.1 t.2.1 av rv xs v W (T3.out.1.below h) hx (by omega) hxl hxv)
  have H1000 := hid h1000
  obtain ⟨ao, acap, hva, -⟩ := T3.out.1.split
  obtain ⟨ro, rcap, hvr, -⟩ := RdR.split T3.out.2
  obtain ⟨nm, ats, rs⟩ := t
  simp only at hva hvr
  subst hva hvr
  replace H1000 : Hid (rs.length ≤ 1000) := hid H1000.out
  replace HVL : Hid (∀ r ∈ rs, r.2.2.length ≤ 1000) := hid HVL.out
  obtain ⟨⟨c0', c1', c2'⟩, ⟨z0', z1', z2'⟩, zf'⟩ := KK.out w3 (Below.refl _ _)
  have l2 : (rs.length : Int) ≤ 1000 := by have := H1000.out; omega
  have RR3 := hid (show RdR w3 (.slice ro rs.length rcap) rs from T3.out.2)
  clear ht hk hnb h16 h1000 hab hrow hasc hvals b1 b3 c0 c1 c2 z0 z1 z2 zf s1 s3 hw1 hw3
  rw [← WW.out] at c0' c1' c2'
  go_enter Tryz.func27, Tryz.ntmps27
  go_wp2_with fail
  rw [WW.out]
  clear c0' c1' c2' z0' z1' z2' zf'
  refine (TV.out _ (Below.refl _ _)).mono ?_
  rintro e w4 ⟨rfl, hb4⟩
  have B4 := hid hb4
  obtain ⟨⟨c0, c1, c2⟩, ⟨z0, z1, z2⟩, zf⟩ := KK.out w4 hb4
  clear hb4
  go_wp2_with fail
  refine (FI.out _ B4.out).mono ?_
  rintro e w5 ⟨rfl, hb5⟩
  have B5 := hid (B4.out.trans (hb5.mono B4.out.size))
  clear hb5 c0 c1 c2 z0 z1 z2 zf
  obtain ⟨⟨c0, c1, c2⟩, ⟨z0, z1, z2⟩, zf⟩ := KK.out w5 B5.out
  have zf0 := zf 0 (by omega)
  have zf1 := zf 1 (by omega)
  have zf2 := zf 2 (by omega)
  have BF := hid (fun (W : World) (h : Below w3.heap.size w3 W) => show Below w.heap.size w W from B3.out.trans (h.mono (by have := S3.out; omega)))
  have EQ := hid (fun (W : World) (x : Int) (hx : x ≠ 0) (h : Below w.heap.size w W) => show DelQ (nm, ats, rs) id w (.returned (.tuple #[.agg #[.string (ByteArray.mk #[]), .slice none 0 0, .slice none 0 0], .int .i64 x])) W from ⟨_, _, _, x, rfl, fun h0 => absurd h0 hx, fun _ => ⟨rfl, rfl⟩, h⟩)
  try simp only at c0 c1 c2
  obtain ⟨fo, hfo⟩ : ∃ fo, fnd (nm, ats, rs).2.2 id = fo := ⟨_, rfl⟩
  rw [hfo]
  have HFO := hid (show fnd rs id = fo from hfo)
  clear hfo FI zf TV
  cases fo with
  | none =>

    have hv : fndV none = .tuple #[.int .i64 0, .bool false] := rfl
    rw [hv]
    obtain ⟨wf, hwf⟩ : ∃ wf : World, ((w5.setCell ⟨w.heap.size + 1, 0, none⟩ (.string (ByteArray.mk #[]))).setCell ⟨w.heap.size + 1, 1, none⟩ (.slice none 0 0)).setCell ⟨w.heap.size + 1, 2, none⟩ (.slice none 0 0) = wf := ⟨_, rfl⟩
    obtain ⟨r0, r1, r2⟩ := set3w z0 z1 z2 hwf
    have EE := hid (EQ.out wf 4 (by decide) (by rw [← hwf]; exact (((BF.out _ B5.out).setCell (p := ⟨w.heap.size + 1, 0, none⟩) (by simp) _).setCell (p := ⟨w.heap.size + 1, 1, none⟩) (by simp) _).setCell (p := ⟨w.heap.size + 1, 2, none⟩) (by simp) _))
    have RR := hid (And.intro r0 (And.intro r1 (And.intro r2 hwf)))
    clear r0 r1 r2 hwf
    go_wp2_with fail
    obtain ⟨r0, r1, r2, hwf⟩ := RR.out
    rw [hwf]
    exact bodyPost_ret (v := .tuple #[.agg #[.string (ByteArray.mk #[]), .slice none 0 0, .slice none 0 0], .int .i64 4]) (by simp [results, Tryz.results27, go_sem, r0, r1, r2]) rfl EE.out
  | some i =>
    have hv : fndV (some i) = .tuple #[.int .i64 (i : Int), .bool true] := rfl
    rw [hv]
    obtain ⟨r, hr, hrid⟩ := fnd_get HFO.out
    have hil := (List.getElem?_eq_some_iff.1 hr).1
    have HR := hid (And.intro hr hrid)
    have RR5 := hid (RR3.out.below B5.out)
    obtain ⟨rb, roff, hro, -⟩ := RR5.out.at hr
    subst hro
    have hcap : rs.length ≤ rcap := by obtain ⟨⟨ao', cap', e, h, -⟩, -⟩ := RR5.out; cases e; exact h
    have ONE := hid RR5.out.ones
    have hia : i ≤ rs.length := by omega
    have PA := hid (RdC.toQ (RdC.take RR5.out.1 hia) (fun q hq => ONE.out q (List.mem_of_mem_take hq)))
    have PB := hid (RdC.toQ (RdC.drop cR_length RR5.out.1 (show i + 1 ≤ rs.length by omega)) (fun q hq => ONE.out q (List.mem_of_mem_drop hq)))
    have i0 : (0 : Int) ≤ (i : Int) := by omega
    have i1 : (i : Int) ≤ 1000 := by omega
    have i2 : (i : Int) + 1 ≤ (rs.length : Int) := by omega
    have i3 : ((i : Int) + 1).toNat = i + 1 := by omega
    have i4 : (0 : Int) ≤ (i : Int) + 1 := by omega
    have i5 : (i : Int) ≤ (rs.length : Int) := by omega
    have j1 : i ≤ rcap := by omega
    have j2 : (i : Int) ≤ (rcap : Int) := by omega
    have j3 : (i : Int) ≤ (i : Int) + 1 := by omega
    have j4 : IntKind.i64.wrap ((i : Int) + 1) = (i : Int) + 1 := by rw [IntKind.wrap_i64]; omega
    have j5 : i + 1 ≤ rs.length := by omega
    have j6 : i + 1 ≤ rcap := by omega
    have j7 : rs.length ≤ rcap := hcap
    have HIL := hid hil
    have HLL := hid (show (rs.take i ++ rs.drop (i + 1)).length ≤ 1000 by rw [List.length_append, List.length_take, List.length_drop]; have := H1000.out; omega)
    clear hr hrid hil hia hv EQ
    by_cases hce : rcap = i + 1
    · subst hce
      have PBX := hid (show RdC cQ w5 (.slice (some ⟨rb, roff, none⟩) 0 0) (rs.drop (i + 1)) from by have h := PB.out; rw [if_pos rfl, Nat.sub_self, show rs.length - (i + 1) = 0 by omega] at h; exact h)
      have LTA := hid (show (rs.take i).length = i by rw [List.length_take]; have := HIL.out; omega)
      have LTB := hid (show (rs.drop (i + 1)).length = rs.length - (i + 1) by rw [List.length_drop])
      have ba := below_alloc w5 (.cells #[.slice (some ⟨rb, roff, none⟩) i (i + 1), .slice (some ⟨rb, roff, none⟩) 0 0] 46)
      have BA := hid (show Below w5.heap.size w5 ((w5.alloc (.cells #[.slice (some ⟨rb, roff, none⟩) i (i + 1), .slice (some ⟨rb, roff, none⟩) 0 0] 46)).drew) from ba.drew)
      obtain ⟨p0, p1⟩ := cells2 (w := w5) (a := .slice (some ⟨rb, roff, none⟩) i (i + 1)) (b := .slice (some ⟨rb, roff, none⟩) 0 0) (t := 46) _ (Below.refl _ _)
      have CO := hid (concatR_any (rs.take i) (rs.drop (i + 1)) _ _ w5.heap.size ((w5.drewN 1).alloc (.cells #[.slice (some ⟨rb, roff, none⟩) i (i + 1), .slice (some ⟨rb, roff, none⟩) 0 0] 46)) p0 p1 (RdC.below PA.out BA.out) (RdC.below PBX.out BA.out) (by rw [LTA.out, LTB.out]; have := H1000.out; have := HIL.out; omega))
      have BAN := hid (show Below w5.heap.size w5 ((w5.drewN 1).alloc (.cells #[.slice (some ⟨rb, roff, none⟩) i (i + 1), .slice (some ⟨rb, roff, none⟩) 0 0] 46)) from BA.out)
      have BA3 := hid (B5.out.trans (BA.out.mono B5.out.size))
      obtain ⟨⟨a0, a1, a2⟩, ⟨ya0, ya1, ya2⟩, yaf⟩ := KK.out _ BA3.out
      have ax0 : ∀ o, (w5.alloc o).cell? ⟨w.heap.size, 0, none⟩ = some (.string nm) := fun o => (KK.out _ (B5.out.trans ((below_alloc w5 o).mono B5.out.size))).1.1
      have ax1 : ∀ o, (w5.alloc o).cell? ⟨w.heap.size, 1, none⟩ = some (.slice ao ats.length acap) := fun o => (KK.out _ (B5.out.trans ((below_alloc w5 o).mono B5.out.size))).1.2.1
      have ax2 : ∀ o, (w5.alloc o).cell? ⟨w.heap.size, 2, none⟩ = some (.slice (some ⟨rb, roff, none⟩) rs.length (i + 1)) := fun o => (KK.out _ (B5.out.trans ((below_alloc w5 o).mono B5.out.size))).1.2.2
      clear ba p0 p1 a0 a1 a2 ya0 ya1 ya2 yaf
      go_wp2_with fail
      go_region_law (first
        | (go_simp; go_at_call 66; refine CO.out.mono ?_; rintro e w7 ⟨v7, rfl, ho7, hb7⟩; have hL7 := BAN.out.trans (hb7.mono BAN.out.size); have B7 := hid (B5.out.trans (hL7.mono B5.out.size)); obtain ⟨⟨f0, f1, f2⟩, -, -⟩ := KK.out w7 B7.out; have hro7 := RdC.of_owns cQ_length ho7 (by have := HLL.out; omega); have RD7 := hid (show RdR w7 v7 (rs.take i ++ rs.drop (i + 1)) from ⟨RdC.ofQ hro7 (fun q hq => (List.mem_append.1 hq).elim (fun h => ONE.out q (List.mem_of_mem_take h)) (fun h => ONE.out q (List.mem_of_mem_drop h))), fun q hq => RdC.below (RR5.out.2 q ((List.mem_append.1 hq).elim (fun h => List.mem_of_mem_take h) (fun h => List.mem_of_mem_drop h))) hL7⟩); have TWC := hid (TW.out _ v7 w7 B7.out RD7.out HLL.out (fun q hq => HVL.out q ((List.mem_append.1 hq).elim (fun h => List.mem_of_mem_take h) (fun h => List.mem_of_mem_drop h)))); clear hb7)
        | (go_simp; go_at_call 65; refine TWC.out.mono ?_; rintro e w8 ⟨av', tv, rs', M, rfl, hA8, hFA, hLM, hMS, hOT, hCP, hb8⟩; have B8 := hid (B7.out.trans (hb8.mono B7.out.size)); obtain ⟨ao8, acap8, rfl, -, -⟩ := hA8.split; obtain ⟨to8, n8, tcap8, rfl⟩ := own_sliceK hOT.rows; obtain ⟨-, ⟨g0, g1, g2⟩, gf⟩ := KK.out w8 B8.out; have gf0 := gf 0 (by omega); have gf1 := gf 1 (by omega); have gf2 := gf 2 (by omega)))
      all_goals
        have hlen := hCP.len
        have HVL8 := hCP.vals (n := 1000) (fun q hq => HVL.out q (by
          rcases List.mem_append.1 hq with h | h
          · exact List.mem_of_mem_take h
          · exact List.mem_of_mem_drop h))
        have RD8 := hOT.rd (by rw [hlen]; exact HLL.out) HVL8
        obtain ⟨wf, hwf⟩ : ∃ wf : World, ((w8.setCell ⟨w.heap.size + 1, 0, none⟩ (.string nm)).setCell ⟨w.heap.size + 1, 1, none⟩ (.slice ao8 ats.length acap8)).setCell ⟨w.heap.size + 1, 2, none⟩ (.slice to8 n8 tcap8) = wf := ⟨_, rfl⟩
        obtain ⟨r0, r1, r2⟩ := set3w g0 g1 g2 hwf
        have zM : w.heap.size + 1 < M := by have e1 := B7.out.size; have e2 := S3.out; omega
        have z7 : w.heap.size + 1 < w7.heap.size := by have e1 := B7.out.size; have e2 := S3.out; omega
        have QI := hid (show DelQ (nm, ats, rs) id w (.returned (.tuple #[.agg #[.string nm, .slice ao8 ats.length acap8, .slice to8 n8 tcap8], .int .i64 0])) wf from by
          refine ⟨_, _, _, 0, rfl, fun _ => ⟨rfl, i, r, rs', HFO.out, HR.out.1, HR.out.2, hCP, ⟨?_, ?_, ?_⟩, ?_⟩, fun h => absurd rfl h, ?_⟩
          · rw [← hwf]; exact RdE.set3 hA8 (hFA _ (.inl z7))
          · rw [← hwf]; exact RdC.set3 RD8.1 (hOT.far zM).1
          · intro q hq; rw [← hwf]; exact RdC.set3 (RD8.2 q hq) ((hOT.far zM).2 q hq)
          · intro j hj
            have hjM : j < M := by omega
            exact ⟨hFA j (.inl (by omega)), (hOT.far hjM).1, fun q hq => (hOT.far hjM).2 q hq⟩
          · rw [← hwf]
            exact (((BF.out _ B8.out).setCell (p := ⟨w.heap.size + 1, 0, none⟩) (by simp) _).setCell (p := ⟨w.heap.size + 1, 1, none⟩) (by simp) _).setCell (p := ⟨w.heap.size + 1, 2, none⟩) (by simp) _)
        have RRF := hid (And.intro r0 (And.intro r1 (And.intro r2 hwf)))
        clear r0 r1 r2 hwf hA8 hFA hLM hMS hOT hCP hb8 RD8 HVL8 hlen zM z7
        go_wp2_with fail
        obtain ⟨r0, r1, r2, hwf⟩ := RRF.out
        try rw [hwf]
        exact bodyPost_ret (v := .tuple #[.agg #[.string nm, .slice ao8 ats.length acap8, .slice to8 n8 tcap8], .int .i64 0]) (by simp [results, Tryz.results27, go_sem, r0, r1, r2]) rfl QI.out
    · have PBX := hid (show RdC cQ w5 (.slice (some ⟨rb, roff + (i + 1) * 2, none⟩) (rs.length - (i + 1)) (rcap - (i + 1))) (rs.drop (i + 1)) from by have h := PB.out; rw [if_neg hce] at h; exact h)
      have LTA := hid (show (rs.take i).length = i by rw [List.length_take]; have := HIL.out; omega)
      have LTB := hid (show (rs.drop (i + 1)).length = rs.length - (i + 1) by rw [List.length_drop])
      have ba := below_alloc w5 (.cells #[.slice (some ⟨rb, roff, none⟩) i rcap, .slice (some ⟨rb, roff + (i + 1) * 2, none⟩) (rs.length - (i + 1)) (rcap - (i + 1))] 46)
      have BA := hid (show Below w5.heap.size w5 ((w5.alloc (.cells #[.slice (some ⟨rb, roff, none⟩) i rcap, .slice (some ⟨rb, roff + (i + 1) * 2, none⟩) (rs.length - (i + 1)) (rcap - (i + 1))] 46)).drew) from ba.drew)
      obtain ⟨p0, p1⟩ := cells2 (w := w5) (a := .slice (some ⟨rb, roff, none⟩) i rcap) (b := .slice (some ⟨rb, roff + (i + 1) * 2, none⟩) (rs.length - (i + 1)) (rcap - (i + 1))) (t := 46) _ (Below.refl _ _)
      have CO := hid (concatR_any (rs.take i) (rs.drop (i + 1)) _ _ w5.heap.size ((w5.drewN 1).alloc (.cells #[.slice (some ⟨rb, roff, none⟩) i rcap, .slice (some ⟨rb, roff + (i + 1) * 2, none⟩) (rs.length - (i + 1)) (rcap - (i + 1))] 46)) p0 p1 (RdC.below PA.out BA.out) (RdC.below PBX.out BA.out) (by rw [LTA.out, LTB.out]; have := H1000.out; have := HIL.out; omega))
      have BAN := hid (show Below w5.heap.size w5 ((w5.drewN 1).alloc (.cells #[.slice (some ⟨rb, roff, none⟩) i rcap, .slice (some ⟨rb, roff + (i + 1) * 2, none⟩) (rs.length - (i + 1)) (rcap - (i + 1))] 46)) from BA.out)
      have BA3 := hid (B5.out.trans (BA.out.mono B5.out.size))
      obtain ⟨⟨a0, a1, a2⟩, ⟨ya0, ya1, ya2⟩, yaf⟩ := KK.out _ BA3.out
      have ax0 : ∀ o, (w5.alloc o).cell? ⟨w.heap.size, 0, none⟩ = some (.string nm) := fun o => (KK.out _ (B5.out.trans ((below_alloc w5 o).mono B5.out.size))).1.1
      have ax1 : ∀ o, (w5.alloc o).cell? ⟨w.heap.size, 1, none⟩ = some (.slice ao ats.length acap) := fun o => (KK.out _ (B5.out.trans ((below_alloc w5 o).mono B5.out.size))).1.2.1
      have ax2 : ∀ o, (w5.alloc o).cell? ⟨w.heap.size, 2, none⟩ = some (.slice (some ⟨rb, roff, none⟩) rs.length rcap) := fun o => (KK.out _ (B5.out.trans ((below_alloc w5 o).mono B5.out.size))).1.2.2
      clear ba p0 p1 a0 a1 a2 ya0 ya1 ya2 yaf
      go_wp2_with fail
      go_region_law (first
        | (go_simp; go_at_call 66; refine CO.out.mono ?_; rintro e w7 ⟨v7, rfl, ho7, hb7⟩; have hL7 := BAN.out.trans (hb7.mono BAN.out.size); have B7 := hid (B5.out.trans (hL7.mono B5.out.size)); obtain ⟨⟨f0, f1, f2⟩, -, -⟩ := KK.out w7 B7.out; have hro7 := RdC.of_owns cQ_length ho7 (by have := HLL.out; omega); have RD7 := hid (show RdR w7 v7 (rs.take i ++ rs.drop (i + 1)) from ⟨RdC.ofQ hro7 (fun q hq => (List.mem_append.1 hq).elim (fun h => ONE.out q (List.mem_of_mem_take h)) (fun h => ONE.out q (List.mem_of_mem_drop h))), fun q hq => RdC.below (RR5.out.2 q ((List.mem_append.1 hq).elim (fun h => List.mem_of_mem_take h) (fun h => List.mem_of_mem_drop h))) hL7⟩); have TWC := hid (TW.out _ v7 w7 B7.out RD7.out HLL.out (fun q hq => HVL.out q ((List.mem_append.1 hq).elim (fun h => List.mem_of_mem_take h) (fun h => List.mem_of_mem_drop h)))); clear hb7)
        | (go_simp; go_at_call 65; refine TWC.out.mono ?_; rintro e w8 ⟨av', tv, rs', M, rfl, hA8, hFA, hLM, hMS, hOT, hCP, hb8⟩; have B8 := hid (B7.out.trans (hb8.mono B7.out.size)); obtain ⟨ao8, acap8, rfl, -, -⟩ := hA8.split; obtain ⟨to8, n8, tcap8, rfl⟩ := own_sliceK hOT.rows; obtain ⟨-, ⟨g0, g1, g2⟩, gf⟩ := KK.out w8 B8.out; have gf0 := gf 0 (by omega); have gf1 := gf 1 (by omega); have gf2 := gf 2 (by omega)))
      all_goals
        have hlen := hCP.len
        have HVL8 := hCP.vals (n := 1000) (fun q hq => HVL.out q (by
          rcases List.mem_append.1 hq with h | h
          · exact List.mem_of_mem_take h
          · exact List.mem_of_mem_drop h))
        have RD8 := hOT.rd (by rw [hlen]; exact HLL.out) HVL8
        obtain ⟨wf, hwf⟩ : ∃ wf : World, ((w8.setCell ⟨w.heap.size + 1, 0, none⟩ (.string nm)).setCell ⟨w.heap.size + 1, 1, none⟩ (.slice ao8 ats.length acap8)).setCell ⟨w.heap.size + 1, 2, none⟩ (.slice to8 n8 tcap8) = wf := ⟨_, rfl⟩
        obtain ⟨r0, r1, r2⟩ := set3w g0 g1 g2 hwf
        have zM : w.heap.size + 1 < M := by have e1 := B7.out.size; have e2 := S3.out; omega
        have z7 : w.heap.size + 1 < w7.heap.size := by have e1 := B7.out.size; have e2 := S3.out; omega
        have QI := hid (show DelQ (nm, ats, rs) id w (.returned (.tuple #[.agg #[.string nm, .slice ao8 ats.length acap8, .slice to8 n8 tcap8], .int .i64 0])) wf from by
          refine ⟨_, _, _, 0, rfl, fun _ => ⟨rfl, i, r, rs', HFO.out, HR.out.1, HR.out.2, hCP, ⟨?_, ?_, ?_⟩, ?_⟩, fun h => absurd rfl h, ?_⟩
          · rw [← hwf]; exact RdE.set3 hA8 (hFA _ (.inl z7))
          · rw [← hwf]; exact RdC.set3 RD8.1 (hOT.far zM).1
          · intro q hq; rw [← hwf]; exact RdC.set3 (RD8.2 q hq) ((hOT.far zM).2 q hq)
          · intro j hj
            have hjM : j < M := by omega
            exact ⟨hFA j (.inl (by omega)), (hOT.far hjM).1, fun q hq => (hOT.far hjM).2 q hq⟩
          · rw [← hwf]
            exact (((BF.out _ B8.out).setCell (p := ⟨w.heap.size + 1, 0, none⟩) (by simp) _).setCell (p := ⟨w.heap.size + 1, 1, none⟩) (by simp) _).setCell (p := ⟨w.heap.size + 1, 2, none⟩) (by simp) _)
        have RRF := hid (And.intro r0 (And.intro r1 (And.intro r2 hwf)))
        clear r0 r1 r2 hwf hA8 hFA hLM hMS hOT hCP hb8 RD8 HVL8 hlen zM z7
        go_wp2_with fail
        obtain ⟨r0, r1, r2, hwf⟩ := RRF.out
        try rw [hwf]
        exact bodyPost_ret (v := .tuple #[.agg #[.string nm, .slice ao8 ats.length acap8, .slice to8 n8 tcap8], .int .i64 0]) (by simp [results, Tryz.results27, go_sem, r0, r1, r2]) rfl QI.out

end Go.Proofs.YtdiafhbbmliefaaGreatDoor

