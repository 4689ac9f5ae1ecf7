/- The walks of Witness, of agree and of the reference. -/
import Derived.Test.YtkehelplmipenaaTab14
import Derived.Test.YtkehelplmipenaaGTabB
import Derived.StillTailTactics
namespace Go.Proofs.Ytkehelplmipenaa
open Go.RowKit

/-- The first pair that agrees exactly on a set. -/
def witIn (r : Row3) (s : S) : List Row3 → Option (Int × Int) → Option (Int × Int)
  | [], d => d
  | q :: qs, d => if pairS r q == s then some (r.1, q.1) else witIn r s qs d
def fpS : List Row3 → S → Option (Int × Int)
  | [], _ => none
  | r :: rs, s => witIn r s rs (fpS rs s)
theorem fpS_at {rs : List Row3} {i : Nat} {r : Row3} (h : rs[i]? = some r) (s : S) : fpS (rs.drop i) s = witIn r s (rs.drop (i + 1)) (fpS (rs.drop (i + 1)) s) := by rw [drop_at h]; rfl
theorem witIn_at {rs : List Row3} {k : Nat} {q : Row3} (h : rs[k]? = some q) (r : Row3) (s : S) (d : Option (Int × Int)) : witIn r s (rs.drop k) d = if pairS r q == s then some (r.1, q.1) else witIn r s (rs.drop (k + 1)) d := by rw [drop_at h]; rfl
def witV : Option (Int × Int) → Value
  | none => .tuple #[.int .i64 0, .int .i64 0, .bool false]
  | some x => .tuple #[.int .i64 x.1, .int .i64 x.2, .bool true]

set_option maxRecDepth 100000 in
theorem awit_err (t : T3) (av rv : Value) (s : S) (w : World) (ht : RdT w av rv t) (hk : tabE2 t ≠ 0) :
    Calls Try.prog 21 #[.agg #[.string t.1, av, rv], enc s] w fun e w' => e = .returned (.tuple #[.int .i64 0, .int .i64 0, .bool false]) ∧ Below w.heap.size w w' := by
  have hb0 := below_alloc w (.cells #[.string t.1, av, rv] 25)
  have C3 := hid (fun W h => cells3 (w := w) (a := .string t.1) (b := av) (c := rv) (t := 25) W h)
  have T0 := hid (ht.below hb0)
  obtain ⟨w0, hw0⟩ : ∃ w0 : World, w.alloc (.cells #[.string t.1, av, rv] 25) = w0 := ⟨_, rfl⟩
  rw [hw0] at hb0 C3 T0
  have B0 := hid hb0
  have W0 := hid hw0
  have hsz0 := hb0.size
  clear hb0 hw0
  have CH := hid (check_any t av rv _ T0.out)
  obtain ⟨c0, c1, c2⟩ := C3.out _ (Below.refl _ _)
  have hne : ((tabE2 t) != (0 : Int)) = true := by simpa using hk
  clear hk ht T0 C3
  generalize tabE2 t = n at *
  obtain ⟨nm, ats, rs⟩ := t
  unfold enc
  go_enter Try.func21, Try.ntmps21
  go_wp2_with fail
  rw [W0.out]
  go_wp2_with fail
  refine CH.out.mono ?_
  rintro e w1 ⟨rfl, hb1⟩
  have B1 := hid (B0.out.trans (hb1.mono B0.out.size))
  clear hb1
  go_wp2_with fail
  go_ret3
  exact ⟨rfl, B1.out⟩

set_option maxHeartbeats 1600000 in
set_option maxRecDepth 100000 in
theorem awit_ok (t : T3) (av rv : Value) (s : S) (w : World) (ht : RdT w av rv t) (hk : tabE2 t = 0) :
    Calls Try.prog 21 #[.agg #[.string t.1, av, rv], enc s] w fun e w' => e = .returned (witV (fpS t.2.2 s)) ∧ Below w.heap.size w w' := by
  have hb0 := below_alloc w (.cells #[.string t.1, av, rv] 25)
  have C3 := hid (fun W h => cells3 (w := w) (a := .string t.1) (b := av) (c := rv) (t := 25) W h)
  have T0 := hid (ht.below hb0)
  obtain ⟨w0, hw0⟩ : ∃ w0 : World, w.alloc (.cells #[.string t.1, av, rv] 25) = w0 := ⟨_, rfl⟩
  rw [hw0] at hb0 C3 T0
  have B0 := hid hb0
  have W0 := hid hw0
  have hsz0 := hb0.size
  clear hb0 hw0
  have CH := hid (check_any t av rv _ T0.out)
  have RA := hid (fun (i j : Int) (xs ys : List V3) (u v : Value) (W : World) (hu : RdV W u xs) (hv : RdV W v ys) (hl : ys.length = xs.length) (h32 : xs.length ≤ 32) => aset_any i j xs ys u v W hu hv hl h32)
  have KK := hid hk
  obtain ⟨h16, h200, hrows⟩ := tabE2_ok hk
  obtain ⟨nm, ats, rs⟩ := t
  replace h16 : ats.length ≤ 16 := h16
  replace h200 : rs.length ≤ 200 := h200
  have HR := hid (show ∀ r ∈ rs, r.2.2.length = ats.length ∧ ∀ x ∈ r.2.2, x.2.2.size ≤ 200 from hrows)
  obtain ⟨ro, rcap, rfl, hrl, hrc⟩ := RdR.split T0.out.2
  have RC := hid hrc
  have hcap : rs.length ≤ rcap := by
    obtain ⟨⟨ao, cap, e, h1, _⟩, _⟩ := T0.out.2
    cases e; exact h1
  obtain ⟨c0, c1, c2⟩ := C3.out _ (Below.refl _ _)
  have WA := hid (fun (i : Nat) (r : Row3) (h : rs[i]? = some r) => fpS_at h s)
  have WI := hid (fun (k : Nat) (q : Row3) (h : rs[k]? = some q) (r : Row3) (d : Option (Int × Int)) => witIn_at h r s d)
  show Calls _ _ _ _ fun e w' => e = .returned (witV (fpS rs s)) ∧ Below w.heap.size w w'
  obtain ⟨F, hF⟩ : ∃ F, fpS rs s = F := ⟨_, rfl⟩
  rw [hF]
  have FF := hid hF
  clear hk ht hrc hrows hF
  unfold enc
  go_enter Try.func21, Try.ntmps21
  go_wp2_with fail
  rw [W0.out]
  go_wp2_with fail
  refine CH.out.mono ?_
  rw [KK.out]
  rintro e w1 ⟨rfl, hb1⟩
  have B1 := hid hb1
  obtain ⟨d0, d1, d2⟩ := C3.out _ hb1
  clear hb1 c0 c1 c2
  go_wp2_with fail
  go_loopw [17] (fun i wr => ∃ k : Nat, k ≤ rs.length ∧ i = .int .i64 k ∧ Hid (fpS (rs.drop k) s = F) ∧ Below w0.heap.size w0 wr) (fun i _ => rs.length - (intOf i).toNat)
  case atStart => exact ⟨0, Nat.zero_le _, rfl, hid (by simpa using FF.out), B1.out⟩
  case round =>
    obtain ⟨i, hk, rfl, HP, hnx⟩ := hrel
    have hsz := hnx.size
    obtain ⟨e0, e1, e2⟩ := C3.out _ hnx
    have i0 : (0 : Int) ≤ (i : Int) := by omega
    by_cases hlt : i < rs.length
    · obtain ⟨⟨rid, ru, rvs⟩, hr⟩ := get_some hlt
      obtain ⟨⟨b, off, rfl, hd⟩, hvs⟩ := RC.out i _ hr
      have HR1 := hid (HR.out _ (List.mem_of_getElem? hr))
      have HP2 := hid ((WA.out i _ hr).symm.trans HP.out)
      have VS := hid (fun (W : World) (h : Below w0.heap.size w0 W) => show RdV W ru rvs from hvs W h)
      obtain ⟨uo, ucap, rfl, -⟩ := RdV.split (VS.out wr hnx)
      obtain ⟨wo, rfl⟩ : ∃ wo : World, wo = wr := ⟨_, rfl⟩
      have hba := below_alloc wo (.cells #[.int .i64 rid, .slice uo rvs.length ucap] 67)
      have hnx1 := hnx.trans (hba.mono hsz)
      obtain ⟨f0, f1⟩ := hd wo hnx
      have hrc0 : (wo.alloc (.cells #[.int .i64 rid, .slice uo rvs.length ucap] 67)).cell? ⟨wo.heap.size, 0, none⟩ = some (.int .i64 rid) := by simp
      have hrc1 : (wo.alloc (.cells #[.int .i64 rid, .slice uo rvs.length ucap] 67)).cell? ⟨wo.heap.size, 1, none⟩ = some (.slice uo rvs.length ucap) := by simp
      obtain ⟨k0, k1, k2⟩ := C3.out _ hnx1
      have ST := hid (And.intro hnx1 (And.intro hrc0 hrc1))
      have DD := hid (fun W h => hd W h)
      clear hd hvs hr hba hnx hnx1 hrc0 hrc1 HP
      by_cases hlast : i + 1 = rcap
      · have hn1 : rs.length = i + 1 := by omega
        have HP3 := hid (show fpS (rs.drop (i + 1)) s = F by have h := HP2.out; rw [List.drop_eq_nil_of_le (show rs.length ≤ i + 1 by omega)] at h ⊢; exact h)
        have HL := hid hlast
        have HN1 := hid hn1
        have hsub : rs.length - (i + 1) = 0 := by omega
        have hcc : (i : Int) + 1 = (rcap : Int) := by omega
        clear hlast hn1
        go_wp2_with fail
        go_loopw [28] (fun j wr => j = .int .i64 0 ∧ Below w0.heap.size w0 wr) (fun _ _ => 0)
        case atStart => exact ⟨rfl, ST.out.1⟩
        case round =>
          obtain ⟨rfl, hnx⟩ := hrel
          have NX := hid hnx
          have hlt0 := HN1.out
          clear hnx
          go_wp2_with fail
          go_roundw
          case rel => exact ⟨i + 1, by omega, by go_num, HP3, NX.out⟩
          case measure => simp [intOf]; omega
      · have hlast2 : i + 1 < rcap := by omega
        obtain ⟨N, hN⟩ : ∃ N, rs.length - (i + 1) = N := ⟨_, rfl⟩
        have HN := hid hN
        have hNb : N ≤ 200 := by omega
        have HLT := hid hlt
        clear hlast
        go_wp2_with fail
        clear hN
        go_loopw [28] (fun j wr => ∃ k : Nat, k ≤ N ∧ j = .int .i64 k ∧ Hid (witIn (rid, Value.slice uo rvs.length ucap, rvs) s (rs.drop (i + 1 + k)) (fpS (rs.drop (i + 1)) s) = F) ∧ Below w0.heap.size w0 wr ∧ wr.cell? ⟨wo.heap.size, 0, none⟩ = some (.int .i64 rid) ∧ wr.cell? ⟨wo.heap.size, 1, none⟩ = some (.slice uo rvs.length ucap)) (fun j _ => N - (intOf j).toNat)
        case atStart => exact ⟨0, Nat.zero_le _, rfl, HP2, ST.out.1, ST.out.2⟩
        case round =>
          obtain ⟨k, hk2, rfl, HQ, hnx2, e0', e1'⟩ := hrel
          have hsz2 := hnx2.size
          have j0 : (0 : Int) ≤ (k : Int) := by omega
          by_cases hlt2 : k < N
          · obtain ⟨⟨qid, qu, qvs⟩, hq⟩ := get_some (show i + 1 + k < rs.length by have := HN.out; omega)
            have HK2 := hid hlt2
            have HR2 := hid (HR.out _ (List.mem_of_getElem? hq))
            obtain ⟨⟨b', off', hbb, hd'⟩, hvs'⟩ := RC.out (i + 1 + k) _ hq
            cases hbb
            have HQ2 := hid ((WI.out (i + 1 + k) _ hq (rid, Value.slice uo rvs.length ucap, rvs) (fpS (rs.drop (i + 1)) s)).symm.trans HQ.out)
            have VS2 := hid (fun (W : World) (h : Below w0.heap.size w0 W) => show RdV W qu qvs from hvs' W h)
            obtain ⟨vo, vcap, rfl, -⟩ := RdV.split (VS2.out wr hnx2)
            have g := hd' wr hnx2
            rw [show off + (i + 1 + k) * 2 = off + (i + 1) * 2 + k * 2 by omega] at g
            obtain ⟨g0, g1⟩ := g
            have hbq := below_alloc wr (.cells #[.int .i64 qid, .slice vo qvs.length vcap] 67)
            have hnx3 := hnx2.trans (hbq.mono hsz2)
            have CR := hid (RA.out rid qid rvs qvs _ _ _ (VS.out _ hnx3) (VS2.out _ hnx3) (by rw [HR1.out.1, HR2.out.1]) (by rw [HR1.out.1]; exact Nat.le_trans h16 (by decide)))
            have x0 : (wr.alloc (.cells #[.int .i64 qid, .slice vo qvs.length vcap] 67)).cell? ⟨wr.heap.size, 0, none⟩ = some (.int .i64 qid) := by simp
            have x1 : (wr.alloc (.cells #[.int .i64 qid, .slice vo qvs.length vcap] 67)).cell? ⟨wr.heap.size, 1, none⟩ = some (.slice vo qvs.length vcap) := by simp
            have hlt1 : wo.heap.size < wr.heap.size := World.block_lt_of_cell? _ _ e0'
            have y0 := (hbq.cell (p := ⟨wo.heap.size, 0, none⟩) hlt1).trans e0'
            have y1 := (hbq.cell (p := ⟨wo.heap.size, 1, none⟩) hlt1).trans e1'
            have XX := hid (And.intro (And.intro x0 x1) (And.intro y0 y1))
            have NX3 := hid hnx3
            have HS := hid (show wr.heap.size < (wr.alloc (.cells #[.int .i64 qid, .slice vo qvs.length vcap] 67)).heap.size by simp)
            clear hd' hvs' hq hnx3 hbq HQ
            obtain ⟨sq, hsq⟩ : ∃ sq, rowsS rvs qvs rvs.length = sq := ⟨_, rfl⟩
            have HQ3 := hid (show (if sq == s then some (rid, qid) else witIn (rid, Value.slice uo rvs.length ucap, rvs) s (rs.drop (i + 1 + k + 1)) (fpS (rs.drop (i + 1)) s)) = F by rw [← hsq]; exact HQ2.out)
            rw [hsq] at CR
            clear hsq HQ2
            go_wp2_with fail
            refine CR.out.mono ?_
            rintro e w2 ⟨rfl, hb2⟩
            have z0 := (hb2.cell (p := ⟨wr.heap.size, 0, none⟩) HS.out).trans XX.out.1.1
            have z2 := (hb2.cell (p := ⟨wo.heap.size, 0, none⟩) (Nat.lt_trans hlt1 HS.out)).trans XX.out.2.1
            have z3 := (hb2.cell (p := ⟨wo.heap.size, 1, none⟩) (Nat.lt_trans hlt1 HS.out)).trans XX.out.2.2
            have NX4 := hid (NX3.out.trans (hb2.mono NX3.out.size))
            clear hb2
            cases hq : (sq == s) with
            | true =>
              rw [hq, if_pos rfl] at HQ3
              have B4 := hid (B0.out.trans (NX4.out.mono hsz0))
              go_wp2_with fail
              go_quiet (fail)
              go_wp2_with fail
              go_ret3
              exact ⟨by rw [← HQ3.out]; rfl, below_drewN' B4.out _⟩
            | false =>
              rw [hq, if_neg (by simp)] at HQ3
              go_wp2_with fail
              go_roundw
              case rel => exact ⟨k + 1, by have := HK2.out; omega, by go_num, HQ3, NX4.out, z2, z3⟩
              case measure => have := HK2.out; simp [intOf]; omega
          · have HP3 := hid (show fpS (rs.drop (i + 1)) s = F by have h := HQ.out; rw [List.drop_eq_nil_of_le (show rs.length ≤ i + 1 + k by have := HN.out; omega)] at h; exact h)
            have NX := hid hnx2
            clear hnx2 HQ
            go_wp2_with fail
            go_roundw
            case rel => exact ⟨i + 1, by have := HLT.out; omega, by go_num, HP3, NX.out⟩
            case measure => have := HLT.out; simp [intOf]; omega
    · have HP3 := hid (show none = F by have h := HP.out; rw [List.drop_eq_nil_of_le (by omega)] at h; exact h)
      have BF := hid (B0.out.trans (hnx.mono hsz0))
      clear hnx HP
      go_wp2_with fail
      go_ret3
      exact ⟨by rw [← HP3.out]; rfl, BF.out⟩

theorem set3 {W : World} {b : Nat} {x y z x' y' z' : Value} (h0 : W.cell? ⟨b, 0, none⟩ = some x') (h1 : W.cell? ⟨b, 1, none⟩ = some y') (h2 : W.cell? ⟨b, 2, none⟩ = some z') {W3 : World} (hW : ((W.setCell ⟨b, 0, none⟩ x).setCell ⟨b, 1, none⟩ y).setCell ⟨b, 2, none⟩ z = W3) :
    W3.cell? ⟨b, 0, none⟩ = some x ∧ W3.cell? ⟨b, 1, none⟩ = some y ∧ W3.cell? ⟨b, 2, none⟩ = some z := by
  subst hW
  refine ⟨?_, ?_, ?_⟩
  · rw [World.cell?_setCell_other _ _ _ _ (by simp), World.cell?_setCell_other _ _ _ _ (by simp)]; exact World.cell?_setCell_same _ _ _ h0
  · rw [World.cell?_setCell_other _ _ _ _ (by simp)]; exact World.cell?_setCell_same _ _ _ ((World.cell?_setCell_other _ _ _ _ (by simp)).trans h1)
  · exact World.cell?_setCell_same _ _ _ ((World.cell?_setCell_other _ _ _ _ (by simp)).trans ((World.cell?_setCell_other _ _ _ _ (by simp)).trans h2))

/-- The reference's pair. -/
def witP : Option (Int × Int) → Value
  | none => .agg #[.int .i64 0, .int .i64 0, .bool false]
  | some x => .agg #[.int .i64 x.1, .int .i64 x.2, .bool true]
def witE (t : T3) (s : S) : Option (Int × Int) := if tabE2 t = 0 then fpS t.2.2 s else none

set_option maxHeartbeats 1600000 in
set_option maxRecDepth 100000 in
theorem rwit_any (t : T3) (av rv : Value) (s : S) (w : World) (ht : RdT w av rv t) :
    Calls Try.prog 22 #[.agg #[.string t.1, av, rv], enc s] w fun e w' => e = .returned (witP (witE t s)) ∧ Below w.heap.size w w' := by
  have hb00 := below_alloc w (.cells #[.string t.1, av, rv] 25)
  have hb01 := below_alloc (w.alloc (.cells #[.string t.1, av, rv] 25)) (.cells #[.int .i64 0, .int .i64 0, .bool false] 45)
  have hb0 := hb00.trans (hb01.mono hb00.size)
  have C3 := hid (fun W (h : Below ((w.alloc (.cells #[.string t.1, av, rv] 25)).alloc (.cells #[.int .i64 0, .int .i64 0, .bool false] 45)).heap.size ((w.alloc (.cells #[.string t.1, av, rv] 25)).alloc (.cells #[.int .i64 0, .int .i64 0, .bool false] 45)) W) => cells3 (w := w) (a := .string t.1) (b := av) (c := rv) (t := 25) W (hb01.trans (h.mono hb01.size)))
  have P3 := hid (fun W h => cells3 (w := w.alloc (.cells #[.string t.1, av, rv] 25)) (a := .int .i64 0) (b := .int .i64 0) (c := .bool false) (t := 45) W h)
  have T0 := hid (ht.below hb0)
  have hfz : ∀ i, ((w.alloc (.cells #[.string t.1, av, rv] 25)).alloc (.cells #[.int .i64 0, .int .i64 0, .bool false] 45)).frozen? ⟨(w.alloc (.cells #[.string t.1, av, rv] 25)).heap.size, i, none⟩ = false := fun i => by simp
  obtain ⟨w0, hw0⟩ : ∃ w0 : World, (w.alloc (.cells #[.string t.1, av, rv] 25)).alloc (.cells #[.int .i64 0, .int .i64 0, .bool false] 45) = w0 := ⟨_, rfl⟩
  rw [hw0] at hb0 C3 T0 P3 hfz
  have B0 := hid hb0
  have W0 := hid hw0
  have hsz0 := hb0.size
  clear hb0 hw0 hb00 hb01
  have CH := hid (refError_any t av rv _ T0.out)
  obtain ⟨c0, c1, c2⟩ := C3.out _ (Below.refl _ _)
  obtain ⟨p0, p1, p2⟩ := P3.out _ (Below.refl _ _)
  have PB := hid (show ∀ W, Below w0.heap.size w0 W → ∀ i, W.frozen? ⟨(w.alloc (.cells #[.string t.1, av, rv] 25)).heap.size, i, none⟩ = false from fun W h i => (h.frozen (p := ⟨(w.alloc (.cells #[.string t.1, av, rv] 25)).heap.size, i, none⟩) (by have := World.block_lt_of_cell? _ _ p0; exact this)).trans (hfz i))
  have HS1 := hid (show (w.alloc (.cells #[.string t.1, av, rv] 25)).heap.size = w.heap.size + 1 by simp)
  rw [HS1.out] at P3 PB p0 p1 p2 hfz
  by_cases he : tabE2 t = 0
  · have HE := hid (show witE t s = fpS t.2.2 s by unfold witE; rw [if_pos he])
    rw [HE.out]
    obtain ⟨h16, h200, hrows⟩ := tabE2_ok he
    have RA := hid (fun (i j : Int) (xs ys : List V3) (u v : Value) (W : World) (hu : RdV W u xs) (hv : RdV W v ys) (hl : ys.length = xs.length) (h32 : xs.length ≤ 32) (hs : ∀ x ∈ xs, x.2.2.size ≤ 200) => rows_any i j xs ys u v W hu hv hl h32 hs)
    have KK := hid he
    obtain ⟨nm, ats, rs⟩ := t
    replace h16 : ats.length ≤ 16 := h16
    replace h200 : rs.length ≤ 200 := h200
    have HR := hid (show ∀ r ∈ rs, r.2.2.length = ats.length ∧ ∀ x ∈ r.2.2, x.2.2.size ≤ 200 from hrows)
    obtain ⟨ro, rcap, rfl, hrl, hrc⟩ := RdR.split T0.out.2
    have RC := hid hrc
    have WA := hid (fun (i : Nat) (r : Row3) (h : rs[i]? = some r) => fpS_at h s)
    have WI := hid (fun (k : Nat) (q : Row3) (h : rs[k]? = some q) (r : Row3) (d : Option (Int × Int)) => witIn_at h r s d)
    show Calls _ _ _ _ fun e w' => e = .returned (witP (fpS rs s)) ∧ Below w.heap.size w w'
    obtain ⟨F, hF⟩ : ∃ F, fpS rs s = F := ⟨_, rfl⟩
    rw [hF]
    have FF := hid hF
    clear he ht hrc hrows hF hfz HE
    unfold enc
    go_enter Try.func22, Try.ntmps22
    go_wp2_with fail
    rw [W0.out]
    go_wp2_with fail
    refine CH.out.mono ?_
    rw [KK.out]
    rintro e w1 ⟨rfl, hb1⟩
    have B1 := hid hb1
    clear hb1 p0 p1 p2 c0 c1 c2
    go_wp2_with fail
    go_loopw [5] (fun i wr => ∃ k : Nat, k ≤ rs.length ∧ i = .int .i64 k ∧ Hid (fpS (rs.drop k) s = F) ∧ Below w0.heap.size w0 wr) (fun i _ => rs.length - (intOf i).toNat)
    case atStart => exact ⟨0, Nat.zero_le _, rfl, hid (by simpa using FF.out), B1.out⟩
    case round =>
      obtain ⟨i, hk, rfl, HP, hnx⟩ := hrel
      have hsz := hnx.size
      obtain ⟨e0, e1, e2⟩ := C3.out _ hnx
      have i0 : (0 : Int) ≤ (i : Int) := by omega
      by_cases hlt : i < rs.length
      · obtain ⟨⟨rid, ru, rvs⟩, hr⟩ := get_some hlt
        obtain ⟨⟨b, off, rfl, hd⟩, hvs⟩ := RC.out i _ hr
        have HR1 := hid (HR.out _ (List.mem_of_getElem? hr))
        have HP2 := hid ((WA.out i _ hr).symm.trans HP.out)
        have VS := hid (fun (W : World) (h : Below w0.heap.size w0 W) => show RdV W ru rvs from hvs W h)
        have DD := hid (fun W h => hd W h)
        obtain ⟨wo, rfl⟩ : ∃ wo : World, wo = wr := ⟨_, rfl⟩
        have HLT := hid hlt
        have NXO := hid hnx
        clear hd hvs hr hnx HP
        go_wp2_with fail
        go_loopw [6] (fun j wr => ∃ k : Nat, i + 1 ≤ k ∧ k ≤ rs.length ∧ j = .int .i64 k ∧ Hid (witIn (rid, ru, rvs) s (rs.drop k) (fpS (rs.drop (i + 1)) s) = F) ∧ Below w0.heap.size w0 wr) (fun j _ => rs.length - (intOf j).toNat)
        case atStart => exact ⟨i + 1, Nat.le_refl _, by omega, by go_num, HP2, NXO.out⟩
        case round =>
          obtain ⟨k, hk1, hk2, rfl, HQ, hnx⟩ := hrel
          have hsz2 := hnx.size
          obtain ⟨f0, f1, f2⟩ := C3.out _ hnx
          have j0 : (0 : Int) ≤ (k : Int) := by omega
          by_cases hlt2 : k < rs.length
          · obtain ⟨⟨qid, qu, qvs⟩, hq⟩ := get_some hlt2
            have HR2 := hid (HR.out _ (List.mem_of_getElem? hq))
            obtain ⟨⟨b', off', hbb, hd'⟩, hvs'⟩ := RC.out k _ hq
            cases hbb
            have HQ2 := hid ((WI.out k _ hq (rid, ru, rvs) (fpS (rs.drop (i + 1)) s)).symm.trans HQ.out)
            have VS2 := hid (fun (W : World) (h : Below w0.heap.size w0 W) => show RdV W qu qvs from hvs' W h)
            obtain ⟨sq, hsq⟩ : ∃ sq, rowsS rvs qvs rvs.length = sq := ⟨_, rfl⟩
            have HQ3 := hid (show (if sq == s then some (rid, qid) else witIn (rid, ru, rvs) s (rs.drop (k + 1)) (fpS (rs.drop (i + 1)) s)) = F by rw [← hsq]; exact HQ2.out)
            have NX := hid hnx
            have C := hid (fun x : After wr => Calls.after x (by
              have := RA.out rid qid rvs qvs ru qu x.world (VS.out _ (NX.out.trans (x.below.mono hsz2))) (VS2.out _ (NX.out.trans (x.below.mono hsz2))) (by rw [HR1.out.1, HR2.out.1]) (by rw [HR1.out.1]; exact Nat.le_trans h16 (by decide)) HR1.out.2
              rw [hsq] at this; exact this))
            obtain ⟨g0, g1⟩ := DD.out wr hnx
            obtain ⟨x0, x1⟩ := hd' wr hnx
            have m2 : ∀ x : After wr, x.world.cell? ⟨w.heap.size, 2, none⟩ = some (.slice (some ⟨b, off, none⟩) rs.length rcap) := fun x => After.cell f2 x
            have n0 : ∀ x : After wr, x.world.cell? ⟨b, off + i * 2, none⟩ = some (.int .i64 rid) := fun x => After.cell g0 x
            have n1 : ∀ x : After wr, x.world.cell? ⟨b, off + i * 2 + 1, none⟩ = some ru := fun x => After.cell g1 x
            have o0 : ∀ x : After wr, x.world.cell? ⟨b, off + k * 2, none⟩ = some (.int .i64 qid) := fun x => After.cell x0 x
            have o1 : ∀ x : After wr, x.world.cell? ⟨b, off + k * 2 + 1, none⟩ = some qu := fun x => After.cell x1 x
            have HK2 := hid hlt2
            have DQ := hid (fun W h => hd' W h)
            clear hd' hvs' hq hnx HQ HQ2 hsq
            cases hq : (sq == s) with
            | true =>
              rw [hq, if_pos rfl] at HQ3
              go_wp2_with fail
              refine wp_region_after (by kernel_rfl) (by kernel_rfl) ?_
              repeat (any_goals (quiet_step (exact C.out _)))
              refine wpQuiet_nil ?_
              intro wq hbq
              have BQ := hid (NX.out.trans (hbq.mono hsz2))
              obtain ⟨q0, q1, q2⟩ := P3.out _ BQ.out
              have qf0 := PB.out _ BQ.out 0
              have qf1 := PB.out _ BQ.out 1
              have qf2 := PB.out _ BQ.out 2
              obtain ⟨s0, s1, s2⟩ := C3.out _ BQ.out
              obtain ⟨u0, u1⟩ := DD.out _ BQ.out
              obtain ⟨v0, v1⟩ := DQ.out _ BQ.out
              clear hbq m2 n0 n1 o0 o1 C g0 g1 x0 x1
              go_wp2_with fail
              go_still_tail 13, (by kernel_rfl)
              go_wp2_with fail
              obtain ⟨wf, hwf⟩ : ∃ wf : World, ((wq.setCell ⟨w.heap.size + 1, 0, none⟩ (.int .i64 rid)).setCell ⟨w.heap.size + 1, 1, none⟩ (.int .i64 qid)).setCell ⟨w.heap.size + 1, 2, none⟩ (.bool true) = wf := ⟨_, rfl⟩
              obtain ⟨r0, r1, r2⟩ := set3 q0 q1 q2 hwf
              have BN := hid (B0.out.trans (BQ.out.mono hsz0))
              have BF : Below w.heap.size w wf := by rw [← hwf]; exact ((BN.out.setCell (p := ⟨w.heap.size + 1, 0, none⟩) (by simp) _).setCell (p := ⟨w.heap.size + 1, 1, none⟩) (by simp) _).setCell (p := ⟨w.heap.size + 1, 2, none⟩) (by simp) _
              rw [hwf]
              exact bodyPost_ret (v := .agg #[.int .i64 rid, .int .i64 qid, .bool true]) (by simp [results, Try.results22, go_sem, r0, r1, r2]) rfl ⟨by rw [← HQ3.out]; rfl, BF.drew⟩
            | false =>
              rw [hq, if_neg (by simp)] at HQ3
              go_wp2_with fail
              refine wp_region_after (by kernel_rfl) (by kernel_rfl) ?_
              repeat (any_goals (quiet_step (exact C.out _)))
              refine wpQuiet_nil ?_
              intro wq hbq
              have BQ := hid (NX.out.trans (hbq.mono hsz2))
              clear hbq m2 n0 n1 o0 o1 C
              go_wp2_with fail
              go_roundw
              case rel => exact ⟨k + 1, by omega, by have := HK2.out; omega, by go_num, HQ3, BQ.out⟩
              case measure => have := HK2.out; simp [intOf]; omega
          · have HP3 := hid (show fpS (rs.drop (i + 1)) s = F by have h := HQ.out; rw [List.drop_eq_nil_of_le (show rs.length ≤ k by omega)] at h; exact h)
            have NX := hid hnx
            clear hnx HQ
            go_wp2_with fail
            go_roundw
            case rel => exact ⟨i + 1, by have := HLT.out; omega, by go_num, HP3, NX.out⟩
            case measure => have := HLT.out; simp [intOf]; omega
      · have HP3 := hid (show none = F by have h := HP.out; rw [List.drop_eq_nil_of_le (by omega)] at h; exact h)
        have BN := hid (B0.out.trans (hnx.mono hsz0))
        obtain ⟨q0, q1, q2⟩ := P3.out _ hnx
        have qf0 := PB.out _ hnx 0
        have qf1 := PB.out _ hnx 1
        have qf2 := PB.out _ hnx 2
        clear hnx HP
        go_wp2_with fail
        obtain ⟨wf, hwf⟩ : ∃ wf : World, ((wr.setCell ⟨w.heap.size + 1, 0, none⟩ (.int .i64 0)).setCell ⟨w.heap.size + 1, 1, none⟩ (.int .i64 0)).setCell ⟨w.heap.size + 1, 2, none⟩ (.bool false) = wf := ⟨_, rfl⟩
        obtain ⟨r0, r1, r2⟩ := set3 q0 q1 q2 hwf
        have BF : Below w.heap.size w wf := by rw [← hwf]; exact ((BN.out.setCell (p := ⟨w.heap.size + 1, 0, none⟩) (by simp) _).setCell (p := ⟨w.heap.size + 1, 1, none⟩) (by simp) _).setCell (p := ⟨w.heap.size + 1, 2, none⟩) (by simp) _
        rw [hwf]
        exact bodyPost_ret (v := .agg #[.int .i64 0, .int .i64 0, .bool false]) (by simp [results, Try.results22, go_sem, r0, r1, r2]) rfl ⟨by rw [← HP3.out]; rfl, BF⟩
  · have HE := hid (show witE t s = none by unfold witE; rw [if_neg he])
    rw [HE.out]
    have hne : ((tabE2 t) != (0 : Int)) = true := by simpa using he
    clear he ht T0
    generalize tabE2 t = n at *
    obtain ⟨nm, ats, rs⟩ := t
    unfold enc
    go_enter Try.func22, Try.ntmps22
    go_wp2_with fail
    rw [W0.out]
    go_wp2_with fail
    refine CH.out.mono ?_
    rintro e w1 ⟨rfl, hb1⟩
    have B1 := hid (B0.out.trans (hb1.mono hsz0))
    obtain ⟨q0, q1, q2⟩ := P3.out _ hb1
    have qf0 := PB.out _ hb1 0
    have qf1 := PB.out _ hb1 1
    have qf2 := PB.out _ hb1 2
    have W1 := hid hb1
    clear hb1 p0 p1 p2 hfz
    go_wp2_with fail
    obtain ⟨wf, hwf⟩ : ∃ wf : World, ((w1.setCell ⟨w.heap.size + 1, 0, none⟩ (.int .i64 0)).setCell ⟨w.heap.size + 1, 1, none⟩ (.int .i64 0)).setCell ⟨w.heap.size + 1, 2, none⟩ (.bool false) = wf := ⟨_, rfl⟩
    obtain ⟨r0, r1, r2⟩ := set3 q0 q1 q2 hwf
    have BF : Below w.heap.size w wf := by rw [← hwf]; exact ((B1.out.setCell (p := ⟨w.heap.size + 1, 0, none⟩) (by simp) _).setCell (p := ⟨w.heap.size + 1, 1, none⟩) (by simp) _).setCell (p := ⟨w.heap.size + 1, 2, none⟩) (by simp) _
    rw [hwf]
    exact bodyPost_ret (v := .agg #[.int .i64 0, .int .i64 0, .bool false]) (by simp [results, Try.results22, go_sem, r0, r1, r2]) rfl ⟨rfl, BF⟩

end Go.Proofs.Ytkehelplmipenaa
