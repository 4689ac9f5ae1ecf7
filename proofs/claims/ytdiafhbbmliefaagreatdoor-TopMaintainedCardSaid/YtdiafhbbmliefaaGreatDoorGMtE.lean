/- Texts that belong together, in one file. -/
import Derived.Test.YtdiafhbbmliefaaGreatDoorGMtD
import Derived.Test.YtdiafhbbmliefaaGreatDoorGMtA
import Derived.Test.YtdiafhbbmliefaaGreatDoorGMid
import Derived.Deep.DeepCutAuto
/- The walk of table.Change. -/
namespace Go.Proofs.YtdiafhbbmliefaaGreatDoor
open Go.RowKit
set_option linter.unusedVariables false

theorem flatV_take (xs : List V3) (i : Nat) (hi : i ≤ xs.length) : (xs.flatMap cV).take (i * 3) = (xs.take i).flatMap cV := by
  have : xs.flatMap cV = (xs.take i).flatMap cV ++ (xs.drop i).flatMap cV := by rw [← List.flatMap_append, List.take_append_drop]
  rw [this, List.take_left' (by rw [flat_length cV_length, List.length_take]; omega)]
theorem flatV_drop (xs : List V3) (i : Nat) (hi : i ≤ xs.length) : (xs.flatMap cV).drop (i * 3) = (xs.drop i).flatMap cV := by
  have : xs.flatMap cV = (xs.take i).flatMap cV ++ (xs.drop i).flatMap cV := by rw [← List.flatMap_append, List.take_append_drop]
  rw [this, List.drop_left' (by rw [flat_length cV_length, List.length_take]; omega)]
theorem flat_setV (xs : List V3) (a : Nat) (x : V3) (h : a < xs.length) : (xs.flatMap cV).take (a * 3) ++ cV x ++ (xs.flatMap cV).drop (a * 3 + (cV x).length) = (xs.set a x).flatMap cV := by
  rw [cV_length, show a * 3 + 3 = (a + 1) * 3 by omega, flatV_take xs a (by omega), flatV_drop xs (a + 1) (by omega), List.set_eq_take_append_cons_drop, if_pos h, List.flatMap_append, List.flatMap_cons]
  simp
theorem flat_setR {rs : List Row3} {i : Nat} {r y : Row3} (hr : rs[i]? = some r) (h1 : y.1 = r.1) (h2 : y.2.1 = r.2.1) : (rs.set i y).flatMap cR = rs.flatMap cR := by
  have hi := (List.getElem?_eq_some_iff.1 hr)
  have e : cR y = cR r := by unfold cR; rw [h1, h2]
  rw [List.set_eq_take_append_cons_drop, if_pos hi.1, List.flatMap_append, List.flatMap_cons, e]
  have e2 : rs = rs.take i ++ r :: rs.drop (i + 1) := by
    rw [← hi.2, ← List.drop_eq_getElem_cons hi.1, List.take_append_drop]
  conv => rhs; rw [e2]
  rw [List.flatMap_append, List.flatMap_cons]
theorem cpAs.set {rs rs' : List Row3} (h : cpAs rs rs') {i : Nat} {r q y z : Row3} (hy : (y.1, y.2.2) = (z.1, z.2.2)) : cpAs (rs.set i z) (rs'.set i y) := by
  unfold cpAs at *
  rw [List.map_set, List.map_set, h, hy]
theorem cpAs.at {rs rs' : List Row3} (h : cpAs rs rs') {i : Nat} {r q : Row3} (hr : rs[i]? = some r) (hq : rs'[i]? = some q) : q.1 = r.1 ∧ q.2.2 = r.2.2 := by
  have := congrArg (fun l => l[i]?) h
  simp only [List.getElem?_map, hr, hq, Option.map_some, Option.some.injEq, Prod.mk.injEq] at this
  exact this
/-- What a successful change leaves. -/
def ChT (w w' : World) (t : T3) (id att : Int) (x : V3) (av' rv' : Value) : Prop :=
  ∃ (i a : Nat) (r : Row3) (rs' : List Row3), fnd t.2.2 id = some i ∧ t.2.2[i]? = some r ∧ r.1 = id ∧ att = (a : Int) ∧ a < t.2.1.length ∧ badV x = false ∧ cpAs (t.2.2.set i (r.1, r.2.1, r.2.2.set a x)) rs' ∧ RdT w' av' rv' (t.1, t.2.1, rs') ∧ FreT w.heap.size av' rv' rs'
def ChQ (t : T3) (id att : Int) (x : V3) (w : World) (e : Ending) (w' : World) : Prop :=
  ∃ (n' : ByteArray) (av' rv' : Value) (k : Int), e = .returned (.tuple #[.agg #[.string n', av', rv'], .int .i64 k]) ∧ (k = 0 → n' = t.1 ∧ ChT w w' t id att x av' rv') ∧ (k ≠ 0 → av' = .slice none 0 0 ∧ rv' = .slice none 0 0) ∧ Below w.heap.size w w'

theorem ChQ.drew {t : T3} {id att : Int} {x : V3} {w w' : World} {e : Ending} (h : ChQ t id att x w e w') : ChQ t id att x w e w'.drew := by
  obtain ⟨n', av', rv', k, he, h1, h2, hb⟩ := h
  exact ⟨n', av', rv', k, he, fun hk => ⟨(h1 hk).1, (h1 hk).2⟩, h2, hb.drew⟩

set_option maxHeartbeats 12800000 in
set_option maxRecDepth 100000 in
theorem tchange_any (t : T3) (av rv : Value) (id att : Int) (x : V3) (w : World) (ht : RdT w av rv t) (hk : tabE t = 0) (hatt : att < 9223372036854775808) :
    Calls Tryz.prog 32 #[.agg #[.string t.1, av, rv], .agg #[.int .i64 id, .int .i64 att], .agg #[.int .i64 x.1, .int .i64 x.2.1, .string x.2.2]] w (ChQ t id att x w) := by
  obtain ⟨hnb, h16, h1000, hab, hrow⟩ := tabE_iff.1 hk
  obtain ⟨hasc, hvals⟩ := rowsE_iff.1 hrow
  have b1 := below_alloc w (.cells #[.string t.1, av, rv] 48)
  obtain ⟨c0, c1, c2⟩ := cells3 (w := w) (a := .string t.1) (b := av) (c := rv) (t := 48) _ (Below.refl _ _)
  have s1 : (w.alloc (.cells #[.string t.1, av, rv] 48)).heap.size = w.heap.size + 1 := by simp
  obtain ⟨w1, hw1⟩ : ∃ w1 : World, w.alloc (.cells #[.string t.1, av, rv] 48) = w1 := ⟨_, rfl⟩
  rw [hw1] at b1 c0 c1 c2 s1
  have b2 := below_alloc w1 (.cells #[.int .i64 id, .int .i64 att] 35)
  obtain ⟨d0, d1⟩ := cells2 (w := w1) (a := .int .i64 id) (b := .int .i64 att) (t := 35) _ (Below.refl _ _)
  have s2 : (w1.alloc (.cells #[.int .i64 id, .int .i64 att] 35)).heap.size = w1.heap.size + 1 := by simp
  obtain ⟨w2, hw2⟩ : ∃ w2 : World, w1.alloc (.cells #[.int .i64 id, .int .i64 att] 35) = w2 := ⟨_, rfl⟩
  rw [hw2] at b2 d0 d1 s2
  have b2b := below_alloc w2 (.cells #[.int .i64 x.1, .int .i64 x.2.1, .string x.2.2] 37)
  obtain ⟨g0, g1, g2⟩ := cells3 (w := w2) (a := .int .i64 x.1) (b := .int .i64 x.2.1) (c := .string x.2.2) (t := 37) _ (Below.refl _ _)
  have s2b : (w2.alloc (.cells #[.int .i64 x.1, .int .i64 x.2.1, .string x.2.2] 37)).heap.size = w2.heap.size + 1 := by simp
  obtain ⟨w2b, hw2b⟩ : ∃ w2b : World, w2.alloc (.cells #[.int .i64 x.1, .int .i64 x.2.1, .string x.2.2] 37) = w2b := ⟨_, rfl⟩
  rw [hw2b] at b2b g0 g1 g2 s2b
  have b3 := below_alloc w2b (.cells #[.string (ByteArray.mk #[]), .slice none 0 0, .slice none 0 0] 48)
  obtain ⟨z0, z1, z2⟩ := cells3 (w := w2b) (a := .string (ByteArray.mk #[])) (b := .slice none 0 0) (c := .slice none 0 0) (t := 48) _ (Below.refl _ _)
  have zf : ∀ j, (w2b.alloc (.cells #[.string (ByteArray.mk #[]), .slice none 0 0, .slice none 0 0] 48)).frozen? ⟨w2b.heap.size, j, none⟩ = false := fun j => by simp
  have s3 : (w2b.alloc (.cells #[.string (ByteArray.mk #[]), .slice none 0 0, .slice none 0 0] 48)).heap.size = w2b.heap.size + 1 := by simp
  obtain ⟨w3, hw3⟩ : ∃ w3 : World, w2b.alloc (.cells #[.string (ByteArray.mk #[]), .slice none 0 0, .slice none 0 0] 48) = w3 := ⟨_, rfl⟩
  rw [hw3] at b3 z0 z1 z2 zf s3
  rw [s1] at d0 d1
  rw [s2, s1] at g0 g1 g2
  rw [s2b, s2, s1] at z0 z1 z2 zf
  have B3 := hid (((b1.trans (b2.mono b1.size)).trans (b2b.mono (Nat.le_trans b1.size b2.size))).trans (b3.mono (Nat.le_trans b1.size (Nat.le_trans b2.size b2b.size))))
  have S3 := hid (show w3.heap.size = w.heap.size + 4 by omega)
  have KK := hid (fun (W : World) (h : Below w3.heap.size w3 W) => show (W.cell? ⟨w.heap.size, 0, none⟩ = some (.string t.1) ∧ W.cell? ⟨w.heap.size, 1, none⟩ = some av ∧ W.cell? ⟨w.heap.size, 2, none⟩ = some rv) ∧ (W.cell? ⟨w.heap.size + 1, 0, none⟩ = some (.int .i64 id) ∧ W.cell? ⟨w.heap.size + 1, 1, none⟩ = some (.int .i64 att)) ∧ (W.cell? ⟨w.heap.size + 1 + 1, 0, none⟩ = some (.int .i64 x.1) ∧ W.cell? ⟨w.heap.size + 1 + 1, 1, none⟩ = some (.int .i64 x.2.1) ∧ W.cell? ⟨w.heap.size + 1 + 1, 2, none⟩ = some (.string x.2.2)) ∧ (W.cell? ⟨w.heap.size + 1 + 1 + 1, 0, none⟩ = some (.string (ByteArray.mk #[])) ∧ W.cell? ⟨w.heap.size + 1 + 1 + 1, 1, none⟩ = some (.slice none 0 0) ∧ W.cell? ⟨w.heap.size + 1 + 1 + 1, 2, none⟩ = some (.slice none 0 0)) ∧ ∀ j, j < 3 → W.frozen? ⟨w.heap.size + 1 + 1 + 1, j, none⟩ = false from by
    have k1 : ∀ (o : Nat) (v : Value), w1.cell? ⟨w.heap.size, o, none⟩ = some v → W.cell? ⟨w.heap.size, o, none⟩ = some v := fun o v hv => (h.cell (p := ⟨w.heap.size, o, none⟩) (by show w.heap.size < _; omega)).trans ((b3.cell (p := ⟨w.heap.size, o, none⟩) (by show w.heap.size < _; omega)).trans ((b2b.cell (p := ⟨w.heap.size, o, none⟩) (by show w.heap.size < _; omega)).trans ((b2.cell (p := ⟨w.heap.size, o, none⟩) (by show w.heap.size < _; omega)).trans hv)))
    have k2 : ∀ (o : Nat) (v : Value), w2.cell? ⟨w.heap.size + 1, o, none⟩ = some v → W.cell? ⟨w.heap.size + 1, o, none⟩ = some v := fun o v hv => (h.cell (p := ⟨w.heap.size + 1, o, none⟩) (by show w.heap.size + 1 < _; omega)).trans ((b3.cell (p := ⟨w.heap.size + 1, o, none⟩) (by show w.heap.size + 1 < _; omega)).trans ((b2b.cell (p := ⟨w.heap.size + 1, o, none⟩) (by show w.heap.size + 1 < _; omega)).trans hv))
    have k2b : ∀ (o : Nat) (v : Value), w2b.cell? ⟨w.heap.size + 1 + 1, o, none⟩ = some v → W.cell? ⟨w.heap.size + 1 + 1, o, none⟩ = some v := fun o v hv => (h.cell (p := ⟨w.heap.size + 1 + 1, o, none⟩) (by show w.heap.size + 1 + 1 < _; omega)).trans ((b3.cell (p := ⟨w.heap.size + 1 + 1, o, none⟩) (by show w.heap.size + 1 + 1 < _; omega)).trans hv)
    have k3 : ∀ (o : Nat) (v : Value), w3.cell? ⟨w.heap.size + 1 + 1 + 1, o, none⟩ = some v → W.cell? ⟨w.heap.size + 1 + 1 + 1, o, none⟩ = some v := fun o v hv => (h.cell (p := ⟨w.heap.size + 1 + 1 + 1, o, none⟩) (by show w.heap.size + 1 + 1 + 1 < _; omega)).trans hv
    exact ⟨⟨k1 _ _ c0, k1 _ _ c1, k1 _ _ c2⟩, ⟨k2 _ _ d0, k2 _ _ d1⟩, ⟨k2b _ _ g0, k2b _ _ g1, k2b _ _ g2⟩, ⟨k3 _ _ z0, k3 _ _ z1, k3 _ _ z2⟩, fun j _ => (h.frozen (p := ⟨w.heap.size + 1 + 1 + 1, j, none⟩) (by show w.heap.size + 1 + 1 + 1 < _; omega)).trans (zf j)⟩)
  have T3 := hid (ht.below B3.out)
  have WW := hid (show (((w.alloc (.cells #[.string t.1, av, rv] 48)).alloc (.cells #[.int .i64 id, .int .i64 att] 35)).alloc (.cells #[.int .i64 x.1, .int .i64 x.2.1, .string x.2.2] 37)).alloc (.cells #[.string (ByteArray.mk #[]), .slice none 0 0, .slice none 0 0] 48) = w3 by rw [hw1, hw2, hw2b, hw3])
  have TV := hid (fun (W : World) (h : Below w3.heap.size w3 W) => tvalid_any t av rv W (T3.out.below h))
  rw [hk] at TV
  have FI := hid (fun (W : World) (h : Below w3.heap.size w3 W) => find_any t av rv id W (T3.out.below h))
  have VV := hid (fun (W : World) => value_valid x W)
  have TW := hid (fun (W : World) (h : Below w3.heap.size w3 W) => twith_any t.1 t.2.1 av rv t.2.2 rv W (T3.out.1.below h) (T3.out.2.below h) (by omega) h1000 (fun r hr => by rw [(hvals r hr).1]; omega))
  have HVAL := hid hvals
  have HL9 := hid h1000
  have H16 := hid h16
  have BV := hid (show badV x = !validV x from rfl)
  obtain ⟨ao, acap, hva, -⟩ := T3.out.1.split
  obtain ⟨ro, rcap, hvr, -⟩ := RdR.split T3.out.2
  obtain ⟨nm, ats, rs⟩ := t
  obtain ⟨x0, x1, x2⟩ := x
  simp only at hva hvr
  subst hva hvr
  replace HL9 : Hid (rs.length ≤ 1000) := hid HL9.out
  replace H16 : Hid (ats.length ≤ 16) := hid H16.out
  replace HVAL : Hid (∀ r ∈ rs, r.2.2.length = ats.length ∧ r.2.2.any badV = false) := hid HVAL.out
  obtain ⟨⟨c0', c1', c2'⟩, ⟨d0', d1'⟩, ⟨g0', g1', g2'⟩, ⟨z0', z1', z2'⟩, zf'⟩ := KK.out w3 (Below.refl _ _)
  have l1 : (ats.length : Int) ≤ 16 := by have := H16.out; omega
  have l2 : (rs.length : Int) ≤ 1000 := by have := HL9.out; omega
  clear ht hk hnb h16 h1000 hab hrow hasc hvals b1 b2 b2b b3 c0 c1 c2 d0 d1 g0 g1 g2 z0 z1 z2 zf s1 s2 s2b s3 hw1 hw2 hw2b hw3
  rw [← WW.out] at c0' c1' c2'
  go_enter Tryz.func32, Tryz.ntmps32
  go_wp2_with fail
  rw [WW.out]
  clear c0' c1' c2' d0' d1' g0' g1' g2' z0' z1' z2' zf'
  refine (TV.out _ (Below.refl _ _)).mono ?_
  rintro e w4 ⟨rfl, hb4⟩
  have B4 := hid hb4
  obtain ⟨⟨c0, c1, c2⟩, ⟨d0, d1⟩, ⟨g0, g1, g2⟩, ⟨z0, z1, z2⟩, zf⟩ := KK.out w4 hb4
  clear hb4
  go_wp2_with fail
  refine (FI.out _ B4.out).mono ?_
  rintro e w5 ⟨rfl, hb5⟩
  have B5 := hid (B4.out.trans (hb5.mono B4.out.size))
  clear hb5 c0 c1 c2 d0 d1 g0 g1 g2 z0 z1 z2 zf
  obtain ⟨⟨c0, c1, c2⟩, ⟨d0, d1⟩, ⟨g0, g1, g2⟩, ⟨z0, z1, z2⟩, zf⟩ := KK.out w5 B5.out
  have zf0 := zf 0 (by omega)
  have zf1 := zf 1 (by omega)
  have zf2 := zf 2 (by omega)
  have BF := hid (fun (W : World) (h : Below w3.heap.size w3 W) => show Below w.heap.size w W from B3.out.trans (h.mono (by have := S3.out; omega)))
  have EQ := hid (fun (W : World) (k : Int) (hx : k ≠ 0) (h : Below w.heap.size w W) => show ChQ (nm, ats, rs) id att (x0, x1, x2) w (.returned (.tuple #[.agg #[.string (ByteArray.mk #[]), .slice none 0 0, .slice none 0 0], .int .i64 k])) W from ⟨_, _, _, k, rfl, fun h0 => absurd h0 hx, fun _ => ⟨rfl, rfl⟩, h⟩)
  have ER := hid (fun (W : World) (h : Below w3.heap.size w3 W) => show ∃ wf : World, ((W.setCell ⟨w.heap.size + 1 + 1 + 1, 0, none⟩ (.string (ByteArray.mk #[]))).setCell ⟨w.heap.size + 1 + 1 + 1, 1, none⟩ (.slice none 0 0)).setCell ⟨w.heap.size + 1 + 1 + 1, 2, none⟩ (.slice none 0 0) = wf ∧ (wf.cell? ⟨w.heap.size + 1 + 1 + 1, 0, none⟩ = some (.string (ByteArray.mk #[])) ∧ wf.cell? ⟨w.heap.size + 1 + 1 + 1, 1, none⟩ = some (.slice none 0 0) ∧ wf.cell? ⟨w.heap.size + 1 + 1 + 1, 2, none⟩ = some (.slice none 0 0)) ∧ Below w.heap.size w wf from by
    obtain ⟨-, -, -, ⟨y0, y1, y2⟩, -⟩ := KK.out W h
    exact ⟨_, rfl, set3w y0 y1 y2 rfl, (((BF.out W h).setCell (p := ⟨w.heap.size + 1 + 1 + 1, 0, none⟩) (by simp; omega) _).setCell (p := ⟨w.heap.size + 1 + 1 + 1, 1, none⟩) (by simp; omega) _).setCell (p := ⟨w.heap.size + 1 + 1 + 1, 2, none⟩) (by simp; omega) _⟩)
  try simp only at c0 c1 c2
  try simp only at g0 g1 g2
  obtain ⟨fo, hfo⟩ : ∃ fo, fnd (nm, ats, rs).2.2 id = fo := ⟨_, rfl⟩
  rw [hfo]
  have HFO := hid (show fnd rs id = fo from hfo)
  clear hfo FI zf TV
  obtain ⟨vv, hvv⟩ : ∃ vv, validV (x0, x1, x2) = vv := ⟨_, rfl⟩
  rw [hvv] at VV BV
  clear hvv
  cases fo with
  | none =>
    rw [show fndV none = .tuple #[.int .i64 0, .bool false] from rfl]
    obtain ⟨wf, hwf, ⟨r0, r1, r2⟩, hB⟩ := ER.out w5 B5.out
    have EE := hid (EQ.out wf 4 (by decide) hB)
    have RR := hid (And.intro r0 (And.intro r1 (And.intro r2 hwf)))
    clear r0 r1 r2 hwf hB
    go_wp2_with fail
    obtain ⟨r0, r1, r2, hwf⟩ := RR.out
    rw [hwf]
    exact bodyPost_ret (v := .tuple #[.agg #[.string (ByteArray.mk #[]), .slice none 0 0, .slice none 0 0], .int .i64 4]) (by simp [results, Tryz.results32, go_sem, r0, r1, r2]) rfl EE.out
  | some i =>
    rw [show fndV (some i) = .tuple #[.int .i64 (i : Int), .bool true] from rfl]
    obtain ⟨r, hr, hrid⟩ := fnd_get HFO.out
    have hil := (List.getElem?_eq_some_iff.1 hr).1
    have HR := hid (And.intro hr hrid)
    have HIL := hid hil
    have i0 : (0 : Int) ≤ (i : Int) := by omega
    have i1 : (i : Int) < (rs.length : Int) := by omega
    clear hr hrid hil
    by_cases hA : att < 0 ∨ (ats.length : Int) ≤ att
    · obtain ⟨wf, hwf, ⟨r0, r1, r2⟩, hB⟩ := ER.out w5 B5.out
      have EE := hid (EQ.out wf 6 (by decide) hB)
      have RR := hid (And.intro r0 (And.intro r1 (And.intro r2 hwf)))
      clear r0 r1 r2 hwf hB
      by_cases h0 : att < 0
      · clear hA
        go_wp2_with fail
        obtain ⟨r0, r1, r2, hwf⟩ := RR.out
        rw [hwf]
        exact bodyPost_ret (v := .tuple #[.agg #[.string (ByteArray.mk #[]), .slice none 0 0, .slice none 0 0], .int .i64 6]) (by simp [results, Tryz.results32, go_sem, r0, r1, r2]) rfl EE.out
      · have h1 : (ats.length : Int) ≤ att := by omega
        have h2 : att ≥ (ats.length : Int) := h1
        clear hA
        go_wp2_with fail
        obtain ⟨r0, r1, r2, hwf⟩ := RR.out
        rw [hwf]
        exact bodyPost_ret (v := .tuple #[.agg #[.string (ByteArray.mk #[]), .slice none 0 0, .slice none 0 0], .int .i64 6]) (by simp [results, Tryz.results32, go_sem, r0, r1, r2]) rfl EE.out
    · obtain ⟨a, rfl⟩ : ∃ a : Nat, att = (a : Int) := ⟨att.toNat, by omega⟩
      have ha : a < ats.length := by omega
      have HA := hid ha
      have h0 : ¬ ((a : Int) < 0) := by omega
      have h1 : ¬ ((ats.length : Int) ≤ (a : Int)) := by omega
      clear hA ha hatt
      cases vv with
      | false =>
        go_wp2_with fail
        refine (VV.out _).mono ?_
        rintro e w6 ⟨rfl, hb6⟩
        have B6 := hid (B5.out.trans (hb6.mono B5.out.size))
        obtain ⟨-, -, -, ⟨z0', z1', z2'⟩, zf'⟩ := KK.out w6 B6.out
        have zf0' := zf' 0 (by omega)
        have zf1' := zf' 1 (by omega)
        have zf2' := zf' 2 (by omega)
        obtain ⟨wf, hwf, ⟨r0, r1, r2⟩, hB⟩ := ER.out w6 B6.out
        have EE := hid (EQ.out wf 1 (by decide) hB)
        have RR := hid (And.intro r0 (And.intro r1 (And.intro r2 hwf)))
        clear r0 r1 r2 hwf hB hb6 c0 c1 c2 d0 d1 g0 g1 g2 z0 z1 z2 zf0 zf1 zf2 zf'
        go_wp2_with fail
        obtain ⟨r0, r1, r2, hwf⟩ := RR.out
        rw [hwf]
        exact bodyPost_ret (v := .tuple #[.agg #[.string (ByteArray.mk #[]), .slice none 0 0, .slice none 0 0], .int .i64 1]) (by simp [results, Tryz.results32, go_sem, r0, r1, r2]) rfl EE.out
      | true =>
        have HBV := hid (show badV (x0, x1, x2) = false from BV.out)
        go_wp2_with fail
        refine (VV.out _).mono ?_
        rintro e w6 ⟨rfl, hb6⟩
        have B6 := hid (B5.out.trans (hb6.mono B5.out.size))
        obtain ⟨⟨c0', c1', c2'⟩, ⟨d0', d1'⟩, ⟨g0', g1', g2'⟩, -, -⟩ := KK.out w6 B6.out
        try simp only at c0' c1' c2'
        try simp only at g0' g1' g2'
        have TWC := hid (TW.out _ B6.out)
        try simp only at TWC
        clear hb6 c0 c1 c2 d0 d1 g0 g1 g2 z0 z1 z2 zf0 zf1 zf2 VV ER EQ
        go_wp2_with fail
        refine TWC.out.mono ?_
        rintro e w7 ⟨av', tv, rs', M, rfl, hA7, hFA, hLM, hMS, hOT, hCP, hb7⟩
        have B7 := hid (B6.out.trans (hb7.mono B6.out.size))
        have LEN := hid hCP.len
        have VL := hid (hCP.vals (n := 16) (fun r hr => by have := (HVAL.out r hr).1; have := H16.out; omega))
        have RD7 := hid (hOT.rd (by have := LEN.out; have := HL9.out; omega) (fun r hr => by have := VL.out r hr; omega))
        obtain ⟨⟨rid', ru', rxs'⟩, hr'⟩ := get_some (show i < rs'.length by have := LEN.out; have := HIL.out; omega)
        obtain ⟨hq1, hq2⟩ := hCP.at HR.out.1 hr'
        simp only at hq1 hq2
        have XL := hid (show rxs'.length = ats.length from by rw [hq2]; exact (HVAL.out _ (List.mem_of_getElem? HR.out.1)).1)
        have hov := hOT.vals _ (List.mem_of_getElem? hr')
        simp only at hov
        obtain ⟨ub, ucap, rfl⟩ : ∃ ub ucap, ru' = .slice (some ⟨ub, 0, none⟩) rxs'.length ucap := by
          rcases hov.2 with ⟨-, h⟩ | ⟨g, cap, cur, e, -⟩
          · have := XL.out; have := HA.out; omega
          · exact ⟨g, cap, e⟩
        obtain ⟨tb, tcap, rfl⟩ : ∃ tb tcap, tv = .slice (some ⟨tb, 0, none⟩) rs'.length tcap := by
          rcases hOT.rows.2 with ⟨-, h⟩ | ⟨g, cap, cur, e, -⟩
          · have := LEN.out; have := HIL.out; omega
          · exact ⟨g, cap, e⟩
        obtain ⟨ao7, acap7, rfl, -, -⟩ := hA7.split
        have HA7 := hid hA7
        have HFA := hid hFA
        have HLM := hid hLM
        have HMS := hid hMS
        have HOT := hid hOT
        have HCP := hid hCP
        have HOV := hid hov
        have HRX := hid hr'
        have HQ := hid (And.intro hq1 hq2)
        have UBL := hid (hov.lt ub rfl)
        have TBL := hid (hOT.rows.lt tb rfl)
        have UNT := hid (show tb ≠ ub from fun e => by
          rcases own_neM hOT.rows hov (by decide) with h | h
          · cases h
          · exact h (by rw [e]; rfl))
        obtain ⟨q0, q1c, q2⟩ := cells3 (w := w7) (a := .string nm) (b := .slice ao7 ats.length acap7) (c := .slice (some ⟨tb, 0, none⟩) rs'.length tcap) (t := 48) _ (Below.refl _ _)
        have hb8 := below_alloc w7 (.cells #[.string nm, .slice ao7 ats.length acap7, .slice (some ⟨tb, 0, none⟩) rs'.length tcap] 48)
        have hs8 : (w7.alloc (.cells #[.string nm, .slice ao7 ats.length acap7, .slice (some ⟨tb, 0, none⟩) rs'.length tcap] 48)).heap.size = w7.heap.size + 1 := by simp
        obtain ⟨w8, hw8⟩ : ∃ w8 : World, w7.alloc (.cells #[.string nm, .slice ao7 ats.length acap7, .slice (some ⟨tb, 0, none⟩) rs'.length tcap] 48) = w8 := ⟨_, rfl⟩
        rw [hw8] at q0 q1c q2 hb8 hs8
        have W8 := hid hw8
        have HB8 := hid hb8
        have B8 := hid (B7.out.trans (hb8.mono B7.out.size))
        have OT8 := hid (HOT.out.below hb8)
        have OV8 := hid (own_below hov hb8)
        have rcell : w8.cell? ⟨tb, i * 2 + 1, none⟩ = some (.slice (some ⟨ub, 0, none⟩) rxs'.length ucap) := by
          rw [OT8.out.rows.cellAt (i * 2 + 1) (by have := LEN.out; have := HIL.out; omega)]
          exact flat_at cR_length rs' i _ 1 _ hr' rfl
        obtain ⟨⟨v0, v1, v2⟩, hxa⟩ := get_some (show a < rxs'.length by have := XL.out; have := HA.out; omega)
        have vc0 : w8.cell? ⟨ub, a * 3, none⟩ = some (.int .i64 v0) := by
          rw [OV8.out.cellAt (a * 3) (by have := XL.out; have := HA.out; omega)]; exact flat_at cV_length rxs' a _ 0 _ hxa rfl
        have vc1 : w8.cell? ⟨ub, a * 3 + 1, none⟩ = some (.int .i64 v1) := by
          rw [OV8.out.cellAt (a * 3 + 1) (by have := XL.out; have := HA.out; omega)]; exact flat_at cV_length rxs' a _ 1 _ hxa rfl
        have vc2 : w8.cell? ⟨ub, a * 3 + 2, none⟩ = some (.string v2) := by
          rw [OV8.out.cellAt (a * 3 + 2) (by have := XL.out; have := HA.out; omega)]; exact flat_at cV_length rxs' a _ 2 _ hxa rfl
        have vf : ∀ j, w8.frozen? ⟨ub, j, none⟩ = false := fun j => OV8.out.frozenAt _
        have vf0 := vf (a * 3)
        have vf1 := vf (a * 3 + 1)
        have vf2 := vf (a * 3 + 2)
        obtain ⟨-, ⟨d0, d1⟩, ⟨g0, g1, g2⟩, ⟨z0, z1, z2⟩, zf⟩ := KK.out w8 B8.out
        try simp only at g0 g1 g2
        have a0 : (0 : Int) ≤ (a : Int) := by omega
        have a1 : (a : Int) < (rxs'.length : Int) := by have := XL.out; have := HA.out; omega
        have i2 : (i : Int) < (rs'.length : Int) := by have := LEN.out; have := HIL.out; omega
        -- behind the store
        obtain ⟨hO9, hG9⟩ := own_setCellsI (cV (x0, x1, x2)) (a * 3) w8 _ OV8.out (by rw [flat_length cV_length, cV_length]; have := XL.out; have := HA.out; omega)
        rw [flat_setV rxs' a (x0, x1, x2) (by have := XL.out; have := HA.out; omega)] at hO9
        have e9 : w8.setCells ub (a * 3) (cV (x0, x1, x2)) = ((w8.setCell ⟨ub, a * 3, none⟩ (.int .i64 x0)).setCell ⟨ub, a * 3 + 1, none⟩ (.int .i64 x1)).setCell ⟨ub, a * 3 + 2, none⟩ (.string x2) := rfl
        obtain ⟨w9, hw9⟩ : ∃ w9 : World, ((w8.setCell ⟨ub, a * 3, none⟩ (.int .i64 x0)).setCell ⟨ub, a * 3 + 1, none⟩ (.int .i64 x1)).setCell ⟨ub, a * 3 + 2, none⟩ (.string x2) = w9 := ⟨_, rfl⟩
        rw [e9, hw9] at hO9 hG9
        have W9 := hid hw9
        have UB7 : ub < w7.heap.size := UBL.out.2
        have UBM : M ≤ ub := UBL.out.1
        have qne : some w7.heap.size ≠ some ub := by simp; omega
        have zM : w.heap.size + 1 + 1 + 1 < M := by have e1 := B6.out.size; have e2 := S3.out; have e3 := HLM.out; omega
        have zne : some (w.heap.size + 1 + 1 + 1) ≠ some ub := by simp; omega
        have zlt : w.heap.size + 1 + 1 + 1 < w8.heap.size := World.block_lt_of_cell? _ _ z0
        have QZ := hid (show (w9.cell? ⟨w7.heap.size, 0, none⟩ = some (.string nm) ∧ w9.cell? ⟨w7.heap.size, 1, none⟩ = some (.slice ao7 ats.length acap7) ∧ w9.cell? ⟨w7.heap.size, 2, none⟩ = some (.slice (some ⟨tb, 0, none⟩) rs'.length tcap)) ∧ (w9.cell? ⟨w.heap.size + 1 + 1 + 1, 0, none⟩ = some (.string (ByteArray.mk #[])) ∧ w9.cell? ⟨w.heap.size + 1 + 1 + 1, 1, none⟩ = some (.slice none 0 0) ∧ w9.cell? ⟨w.heap.size + 1 + 1 + 1, 2, none⟩ = some (.slice none 0 0)) ∧ (w9.frozen? ⟨w.heap.size + 1 + 1 + 1, 0, none⟩ = false ∧ w9.frozen? ⟨w.heap.size + 1 + 1 + 1, 1, none⟩ = false ∧ w9.frozen? ⟨w.heap.size + 1 + 1 + 1, 2, none⟩ = false) from
          ⟨⟨(hG9.cell_far ⟨w7.heap.size, 0, none⟩ (World.block_lt_of_cell? _ _ q0) qne).trans q0, (hG9.cell_far ⟨w7.heap.size, 1, none⟩ (World.block_lt_of_cell? _ _ q1c) qne).trans q1c, (hG9.cell_far ⟨w7.heap.size, 2, none⟩ (World.block_lt_of_cell? _ _ q2) qne).trans q2⟩,
            ⟨(hG9.cell_far ⟨w.heap.size + 1 + 1 + 1, 0, none⟩ zlt zne).trans z0, (hG9.cell_far ⟨w.heap.size + 1 + 1 + 1, 1, none⟩ zlt zne).trans z1, (hG9.cell_far ⟨w.heap.size + 1 + 1 + 1, 2, none⟩ zlt zne).trans z2⟩,
            ⟨(hG9.frozen_far ⟨w.heap.size + 1 + 1 + 1, 0, none⟩ zlt zne).trans (zf 0 (by omega)), (hG9.frozen_far ⟨w.heap.size + 1 + 1 + 1, 1, none⟩ zlt zne).trans (zf 1 (by omega)), (hG9.frozen_far ⟨w.heap.size + 1 + 1 + 1, 2, none⟩ zlt zne).trans (zf 2 (by omega))⟩⟩)
        have QI := hid (show ∀ wf : World, ((w9.setCell ⟨w.heap.size + 1 + 1 + 1, 0, none⟩ (.string nm)).setCell ⟨w.heap.size + 1 + 1 + 1, 1, none⟩ (.slice ao7 ats.length acap7)).setCell ⟨w.heap.size + 1 + 1 + 1, 2, none⟩ (.slice (some ⟨tb, 0, none⟩) rs'.length tcap) = wf → ChQ (nm, ats, rs) id (a : Int) (x0, x1, x2) w (.returned (.tuple #[.agg #[.string nm, .slice ao7 ats.length acap7, .slice (some ⟨tb, 0, none⟩) rs'.length tcap], .int .i64 0])) wf from by
          intro wf hwf
          have zlt3 : w.heap.size + 1 + 1 + 1 < w6.heap.size := by have e2 := B6.out.size; have e3 := S3.out; omega
          have hyl : ∀ q ∈ rs'.set i ((rid', .slice (some ⟨ub, 0, none⟩) rxs'.length ucap, rxs'.set a (x0, x1, x2)) : Row3), RdV w9 q.2.1 q.2.2 ∧ ∀ j, j < M → FarV q.2.1 (some j) := by
            intro q hq
            obtain ⟨j, hj⟩ := List.mem_iff_getElem?.1 hq
            rw [List.getElem?_set] at hj
            by_cases e : i = j
            · subst e
              rw [if_pos rfl] at hj
              split at hj
              · obtain rfl := Option.some.inj hj
                refine ⟨?_, fun j hj => far_own hO9 hj⟩
                have := RdC.of_owns (c := cV) (xs := rxs'.set a (x0, x1, x2)) cV_length (by rw [List.length_set]; exact hO9) (by rw [List.length_set]; have := XL.out; have := H16.out; omega)
                exact this
              · cases hj
            · rw [if_neg e] at hj
              have hqm := List.mem_of_getElem? hj
              have e1 := RD7.out.2 q hqm
              have hne : q.2.1.ownBlock = none ∨ q.2.1.ownBlock ≠ some ub := by
                rcases Nat.lt_or_gt_of_ne e with hlt | hgt
                · have := List.pairwise_iff_getElem.1 HOT.out.apart i j (List.getElem?_eq_some_iff.1 hr').1 (List.getElem?_eq_some_iff.1 hj).1 hlt
                  rw [(List.getElem?_eq_some_iff.1 hr').2, (List.getElem?_eq_some_iff.1 hj).2] at this
                  rcases this with h | h
                  · cases h
                  · exact .inr (fun e => h e.symm)
                · have := List.pairwise_iff_getElem.1 HOT.out.apart j i (List.getElem?_eq_some_iff.1 hj).1 (List.getElem?_eq_some_iff.1 hr').1 hgt
                  rw [(List.getElem?_eq_some_iff.1 hr').2, (List.getElem?_eq_some_iff.1 hj).2] at this
                  exact this
              exact ⟨RdC.grown (RdC.below e1 hb8) hG9 (far_ne (HOT.out.vals q hqm) hne), fun j hj => far_own (HOT.out.vals q hqm) hj⟩
          have hrows : RdC cR w9 (.slice (some ⟨tb, 0, none⟩) rs'.length tcap) (rs'.set i ((rid', .slice (some ⟨ub, 0, none⟩) rxs'.length ucap, rxs'.set a (x0, x1, x2)) : Row3)) := by
            have h1 := RdC.grown (RdC.below RD7.out.1 hb8) hG9 (far_ne HOT.out.rows (.inr (by intro e; exact UNT.out (Option.some.inj e))))
            obtain ⟨ao', cap', e, p1, p2, p3⟩ := h1
            refine ⟨ao', cap', by rw [List.length_set]; exact e, by rw [List.length_set]; exact p1, by rw [List.length_set]; exact p2, fun hp => ?_⟩
            rw [flat_setR (y := ((rid', .slice (some ⟨ub, 0, none⟩) rxs'.length ucap, rxs'.set a (x0, x1, x2)) : Row3)) hr' rfl rfl]
            exact p3 (by rw [List.length_set] at hp; exact hp)
          have hats : RdE encT w9 (.slice ao7 ats.length acap7) ats := RdE.grown (HA7.out.below hb8) hG9 (HFA.out _ (.inr UBM))
          refine ⟨_, _, _, 0, rfl, fun _ => ⟨rfl, i, a, r, rs'.set i ((rid', .slice (some ⟨ub, 0, none⟩) rxs'.length ucap, rxs'.set a (x0, x1, x2)) : Row3), HFO.out, HR.out.1, HR.out.2, rfl, HA.out, HBV.out, HCP.out.set (r := r) (q := r) (by simp only [Prod.mk.injEq]; exact ⟨HQ.out.1, by rw [HQ.out.2]⟩), ⟨?_, ?_, ?_⟩, ?_⟩, fun h => absurd rfl h, ?_⟩
          · rw [← hwf]; exact RdE.set3 hats (HFA.out _ (.inl zlt3))
          · rw [← hwf]; exact RdC.set3 hrows (far_own HOT.out.rows zM)
          · intro q hq; rw [← hwf]; exact RdC.set3 (hyl q hq).1 ((hyl q hq).2 _ zM)
          · intro j hj
            have hjM : j < M := by omega
            exact ⟨HFA.out j (.inl (by omega)), far_own HOT.out.rows hjM, fun q hq => (hyl q hq).2 j hjM⟩
          · rw [← hwf]
            have e1 := (BF.out _ B8.out).grown hG9 (BF.out _ B8.out).size (fun j hj => by cases hj; omega)
            exact ((e1.setCell (p := ⟨w.heap.size + 1 + 1 + 1, 0, none⟩) (by simp; omega) _).setCell (p := ⟨w.heap.size + 1 + 1 + 1, 1, none⟩) (by simp; omega) _).setCell (p := ⟨w.heap.size + 1 + 1 + 1, 2, none⟩) (by simp; omega) _)
        rw [← hw8] at q0 q1c q2 d0 d1 g0 g1 g2 rcell vc0 vc1 vc2 vf0 vf1 vf2
        clear hA7 hFA hLM hMS hOT hCP hb7 hb8 hs8 hw8 hov hr' hq1 hq2 hxa vf e9 hw9 hO9 hG9 qne zM zne zlt z0 z1 z2 zf UB7 UBM c0' c1' c2' d0' d1' g0' g1' g2' TWC TW
        go_wp2_with fail
        rw [W8.out] at q0 q1c q2 d0 d1 g0 g1 g2 rcell vc0 vc1 vc2 vf0 vf1 vf2 ⊢
        go_region_law fail
        all_goals
          try rw [W9.out]
          obtain ⟨⟨q0', q1', q2'⟩, ⟨z0, z1, z2⟩, ⟨zf0, zf1, zf2⟩⟩ := QZ.out
          obtain ⟨wf, hwf⟩ : ∃ wf : World, ((w9.setCell ⟨w.heap.size + 1 + 1 + 1, 0, none⟩ (.string nm)).setCell ⟨w.heap.size + 1 + 1 + 1, 1, none⟩ (.slice ao7 ats.length acap7)).setCell ⟨w.heap.size + 1 + 1 + 1, 2, none⟩ (.slice (some ⟨tb, 0, none⟩) rs'.length tcap) = wf := ⟨_, rfl⟩
          obtain ⟨r0, r1, r2⟩ := set3w z0 z1 z2 hwf
          have QQ := hid (QI.out wf hwf)
          have RR := hid (And.intro r0 (And.intro r1 (And.intro r2 hwf)))
          clear r0 r1 r2 hwf QI QZ q0 q1c q2 d0 d1 g0 g1 g2 rcell vc0 vc1 vc2 vf0 vf1 vf2
          go_wp2_with fail
          obtain ⟨r0, r1, r2, hwf⟩ := RR.out
          try rw [hwf]
          have QD := QQ.out.drew
          exact bodyPost_ret (v := .tuple #[.agg #[.string nm, .slice ao7 ats.length acap7, .slice (some ⟨tb, 0, none⟩) rs'.length tcap], .int .i64 0]) (by simp [results, Tryz.results32, go_sem, r0, r1, r2]) rfl QD

end Go.Proofs.YtdiafhbbmliefaaGreatDoor


/- The walks of maintain's without, renew. -/
namespace Go.Proofs.YtdiafhbbmliefaaGreatDoor
open Go.RowKit
set_option linter.unusedVariables false

def woF (l other : List F) : List F := l.filter fun f => !decide (f ∈ other)
theorem woF_length (l other : List F) : (woF l other).length ≤ l.length := List.length_filter_le _ _

set_option maxHeartbeats 3200000 in
set_option maxRecDepth 100000 in
theorem mwithout_any (l other : List F) (v u : Value) (w : World) (hv : RdF w v l) (hu : RdF w u other) (hl : l.length ≤ 1000) :
    Calls Tryz.prog 70 #[v, u] w fun e w' => ∃ v', e = .returned v' ∧ w'.ownsRow w.heap.size 69 2 v' (woF l other).length ((woF l other).flatMap cF) ∧ Below w.heap.size w w' := by
  have CF := hid (fun (x : F) (W : World) (h : Below w.heap.size w W) => containsF_any other x u W (RdC.below hu h))
  have HV := hid (fun (W : World) (h : Below w.heap.size w W) => show RdF W v l from RdC.below hv h)
  have HL := hid hl
  obtain ⟨vo, vcap, rfl, -⟩ := hv
  obtain ⟨uo, ucap, rfl, -⟩ := hu
  have l0 : (l.length : Int) ≤ 1000 := by omega
  clear hl
  go_enter Tryz.func70, Tryz.ntmps70
  go_wp2_with fail
  go_loopw [5, 10] (fun o i wr => ∃ k : Nat, k ≤ l.length ∧ i = .int .i64 k ∧ wr.ownsRow w.heap.size 69 2 o (woF (l.take k) other).length ((woF (l.take k) other).flatMap cF) ∧ Below w.heap.size w wr) (fun _ i _ => l.length - (intOf i).toNat)
  case atStart => exact ⟨0, Nat.zero_le _, rfl, World.ownsRow_nil _ _ _ _, Below.refl _ _⟩
  case round =>
    obtain ⟨k, hk, rfl, hown, hnx⟩ := hrel
    have hsz := hnx.size
    have k0 : (0 : Int) ≤ (k : Int) := by omega
    by_cases hlt : k < l.length
    · obtain ⟨⟨x, y⟩, hx⟩ := get_some hlt
      obtain ⟨ao, cap, he, -, -, h3⟩ := HV.out wr hnx
      cases he
      obtain ⟨b, off, rfl, hb, hc⟩ := h3 (by omega)
      have e0 : wr.cell? ⟨b, off + k * 2, none⟩ = some (.int .u32 (iv x)) := hc _ _ (flat_at cF_length l k _ 0 _ hx rfl)
      have e1 : wr.cell? ⟨b, off + k * 2 + 1, none⟩ = some (.int .u32 (iv y)) := hc _ _ (flat_at cF_length l k _ 1 _ hx rfl)
      have hba := below_alloc wr (.cells #[.int .u32 (iv x), .int .u32 (iv y)] 69)
      obtain ⟨y0, y1⟩ := cells2 (w := wr) (a := .int .u32 (iv x)) (b := .int .u32 (iv y)) (t := 69) _ (Below.refl _ _)
      obtain ⟨wa, hwa⟩ : ∃ wa : World, wr.alloc (.cells #[.int .u32 (iv x), .int .u32 (iv y)] 69) = wa := ⟨_, rfl⟩
      rw [hwa] at hba y0 y1
      have WA := hid hwa
      have NA := hid (hnx.trans (hba.mono hsz))
      have OA := hid (own_below hown hba)
      have CC := hid (CF.out (x, y) wa NA.out)
      unfold enc at CC
      simp only at CC
      have TN := hid (take_next hx)
      have YK := hid (fun (W : World) (h : Below wa.heap.size wa W) => show W.cell? ⟨wr.heap.size, 0, none⟩ = some (.int .u32 (iv x)) ∧ W.cell? ⟨wr.heap.size, 1, none⟩ = some (.int .u32 (iv y)) from ⟨(h.cell (p := ⟨wr.heap.size, 0, none⟩) (World.block_lt_of_cell? _ _ y0)).trans y0, (h.cell (p := ⟨wr.heap.size, 1, none⟩) (World.block_lt_of_cell? _ _ y1)).trans y1⟩)
      have LE := hid (show (woF (l.take k) other).length ≤ 1000 from by have h1 := woF_length (l.take k) other; have h2 := List.length_take_le k l; have := HL.out; omega)
      rw [← hwa] at y0 y1
      clear hba hwa hx h3 hc hb hown hnx hsz
      cases hq : decide ((x, y) ∈ other) with
      | true =>
        have HE := hid (show woF (l.take (k + 1)) other = woF (l.take k) other by rw [TN.out]; unfold woF; rw [List.filter_append]; simp [of_decide_eq_true hq])
        rw [hq] at CC
        clear hq
        go_wp2_with fail
        rw [WA.out]
        refine CC.out.mono ?_
        rintro e w2 ⟨rfl, hb2⟩
        have O2 := hid (own_below OA.out hb2)
        have N2 := hid (NA.out.trans (hb2.mono NA.out.size))
        clear hb2 y0 y1 e0 e1
        go_wp2_with fail
        go_roundw
        case rel => exact ⟨k + 1, by omega, by go_num, by rw [HE.out]; exact O2.out, N2.out⟩
        case measure => simp [intOf]; omega
      | false =>
        have HE := hid (show woF (l.take (k + 1)) other = woF (l.take k) other ++ [(x, y)] by rw [TN.out]; unfold woF; rw [List.filter_append]; simp [of_decide_eq_false hq])
        rw [hq] at CC
        clear hq
        go_wp2_with fail
        rw [WA.out]
        refine CC.out.mono ?_
        rintro e w2 ⟨rfl, hb2⟩
        have O2 := hid (own_below OA.out hb2)
        have N2 := hid (NA.out.trans (hb2.mono NA.out.size))
        obtain ⟨z0, z1⟩ := YK.out w2 hb2
        clear hb2 y0 y1 e0 e1
        obtain ⟨out, hout⟩ : ∃ out, woF (l.take k) other = out := ⟨_, rfl⟩
        rw [hout] at O2 LE HE
        go_wp2_with (at_builtin; refine wpList_pushC rfl _ _ 50 rfl w.heap.size 69 (.agg #[.int .u32 0, .int .u32 0]) 2 8 undFDs infoFD rfl (by decide) (by decide) cF cF_length cF_one _ out rfl (O2.out.alloc _) ⟨w2.heap.size, 0, none⟩ (x, y) rfl (cells_newF _ _) (by have := LE.out; omega) (by have := N2.out.size; simp; omega) ?_)
        intro v' w3 hown' hgrow
        have hb3 := hid (below_push N2.out N2.out.size O2.out hgrow)
        have OW := hid (show w3.ownsRow w.heap.size 69 2 v' (woF (l.take (k + 1)) other).length ((woF (l.take (k + 1)) other).flatMap cF) by rw [HE.out]; simpa using hown')
        clear hown' hgrow
        go_wp2_with fail
        go_roundw
        case rel => exact ⟨k + 1, by omega, by go_num, OW.out, hb3.out⟩
        case measure => simp [intOf]; omega
    · rw [List.take_of_length_le (by omega)] at hown
      have O2 := hid hown
      have N2 := hid hnx
      clear hown hnx
      go_wp2_with fail
      go_ret
      exact ⟨_, rfl, O2.out, N2.out⟩

end Go.Proofs.YtdiafhbbmliefaaGreatDoor


/- The cells of a maintained state; the walks of renew and of New. -/
namespace Go.Proofs.YtdiafhbbmliefaaGreatDoor
open Go.RowKit
set_option linter.unusedVariables false

theorem grown_setM (w : World) (p : Addr) (v : Value) : w.grownBy (w.setCell p v) (some p.block) :=
  ⟨rfl, rfl, rfl, by simp, fun k hk hne => heap_setCell_other w p k v (fun e => hne (by rw [e]))⟩
/-- The state in block b: its table, its map, its lists. -/
structure StC (w : World) (b mb : Nat) (nm : ByteArray) (av rv fv dv ev : Value) : Prop where
  c0 : w.cell? ⟨b, 0, none⟩ = some (.string nm)
  c1 : w.cell? ⟨b, 1, none⟩ = some av
  c2 : w.cell? ⟨b, 2, none⟩ = some rv
  c3 : w.cell? ⟨b, 3, none⟩ = some (.map (some mb))
  c4 : w.cell? ⟨b, 4, none⟩ = some fv
  c5 : w.cell? ⟨b, 5, none⟩ = some dv
  c6 : w.cell? ⟨b, 6, none⟩ = some ev
  fz : ∀ j, w.frozen? ⟨b, j, none⟩ = false
section
variable {w w' : World} {b mb : Nat} {nm : ByteArray} {av rv fv dv ev : Value}
theorem StC.lt (h : StC w b mb nm av rv fv dv ev) : b < w.heap.size := World.block_lt_of_cell? _ _ h.c0
theorem StC.far {o : Option Nat} (h : StC w b mb nm av rv fv dv ev) (hg : w.grownBy w' o) (hne : some b ≠ o) : StC w' b mb nm av rv fv dv ev := by
  have k : ∀ (o : Nat) (v : Value), w.cell? ⟨b, o, none⟩ = some v → w'.cell? ⟨b, o, none⟩ = some v := fun o v hv => (hg.cell_far ⟨b, o, none⟩ (World.block_lt_of_cell? _ _ hv) hne).trans hv
  exact ⟨k _ _ h.c0, k _ _ h.c1, k _ _ h.c2, k _ _ h.c3, k _ _ h.c4, k _ _ h.c5, k _ _ h.c6, fun j => (hg.frozen_far ⟨b, j, none⟩ h.lt hne).trans (h.fz j)⟩
theorem StC.below (h : StC w b mb nm av rv fv dv ev) (hb : Below w.heap.size w w') : StC w' b mb nm av rv fv dv ev := h.far (o := none) (grow_of_below hb) (by simp)
theorem StC.set4 (h : StC w b mb nm av rv fv dv ev) (x : Value) : StC (w.setCell ⟨b, 4, none⟩ x) b mb nm av rv x dv ev := by
  have k : ∀ (o : Nat) (v : Value), o ≠ 4 → w.cell? ⟨b, o, none⟩ = some v → (w.setCell ⟨b, 4, none⟩ x).cell? ⟨b, o, none⟩ = some v := fun o v ho hv => (World.cell?_setCell_other _ _ _ _ (by simp <;> omega)).trans hv
  exact ⟨k _ _ (by omega) h.c0, k _ _ (by omega) h.c1, k _ _ (by omega) h.c2, k _ _ (by omega) h.c3, World.cell?_setCell_same _ _ _ h.c4, k _ _ (by omega) h.c5, k _ _ (by omega) h.c6, fun j => by rw [World.frozen?_setCell]; exact h.fz j⟩
theorem StC.set5 (h : StC w b mb nm av rv fv dv ev) (x : Value) : StC (w.setCell ⟨b, 5, none⟩ x) b mb nm av rv fv x ev := by
  have k : ∀ (o : Nat) (v : Value), o ≠ 5 → w.cell? ⟨b, o, none⟩ = some v → (w.setCell ⟨b, 5, none⟩ x).cell? ⟨b, o, none⟩ = some v := fun o v ho hv => (World.cell?_setCell_other _ _ _ _ (by simp <;> omega)).trans hv
  exact ⟨k _ _ (by omega) h.c0, k _ _ (by omega) h.c1, k _ _ (by omega) h.c2, k _ _ (by omega) h.c3, k _ _ (by omega) h.c4, World.cell?_setCell_same _ _ _ h.c5, k _ _ (by omega) h.c6, fun j => by rw [World.frozen?_setCell]; exact h.fz j⟩
theorem StC.set6 (h : StC w b mb nm av rv fv dv ev) (x : Value) : StC (w.setCell ⟨b, 6, none⟩ x) b mb nm av rv fv dv x := by
  have k : ∀ (o : Nat) (v : Value), o ≠ 6 → w.cell? ⟨b, o, none⟩ = some v → (w.setCell ⟨b, 6, none⟩ x).cell? ⟨b, o, none⟩ = some v := fun o v ho hv => (World.cell?_setCell_other _ _ _ _ (by simp <;> omega)).trans hv
  exact ⟨k _ _ (by omega) h.c0, k _ _ (by omega) h.c1, k _ _ (by omega) h.c2, k _ _ (by omega) h.c3, k _ _ (by omega) h.c4, k _ _ (by omega) h.c5, World.cell?_setCell_same _ _ _ h.c6, fun j => by rw [World.frozen?_setCell]; exact h.fz j⟩
theorem StC.setT (h : StC w b mb nm av rv fv dv ev) (nm' : ByteArray) (x y : Value) : StC (((w.setCell ⟨b, 0, none⟩ (.string nm')).setCell ⟨b, 1, none⟩ x).setCell ⟨b, 2, none⟩ y) b mb nm' x y fv dv ev := by
  obtain ⟨r0, r1, r2⟩ := set3w h.c0 h.c1 h.c2 (x := .string nm') (y := x) (z := y) rfl
  have k : ∀ (o : Nat) (v : Value), 3 ≤ o → w.cell? ⟨b, o, none⟩ = some v → (((w.setCell ⟨b, 0, none⟩ (.string nm')).setCell ⟨b, 1, none⟩ x).setCell ⟨b, 2, none⟩ y).cell? ⟨b, o, none⟩ = some v := fun o v ho hv =>
    (World.cell?_setCell_other _ _ _ _ (by simp <;> omega)).trans ((World.cell?_setCell_other _ _ _ _ (by simp <;> omega)).trans ((World.cell?_setCell_other _ _ _ _ (by simp <;> omega)).trans hv))
  exact ⟨r0, r1, r2, k _ _ (by omega) h.c3, k _ _ (by omega) h.c4, k _ _ (by omega) h.c5, k _ _ (by omega) h.c6, fun j => by rw [World.frozen?_setCell, World.frozen?_setCell, World.frozen?_setCell]; exact h.fz j⟩
end

def RenP (b mb k : Nat) (ps : List S) (nm : ByteArray) (av rv : Value) (w : World) (e : Ending) (w' : World) : Prop :=
  e = .returned (.tuple #[]) ∧ ∃ (fv' dv' ev' : Value) (xs : List S), StC w' b mb nm av rv fv' dv' ev' ∧ IsOrd xs (fun s => sub s (fullN k)) ∧ xs.length ≤ 64 ∧ RdF w' fv' (minO (qB k ps) k xs xs.length) ∧ (∀ j, j < w.heap.size → FarV fv' (some j)) ∧ w.grownBy w' (some b)

set_option maxHeartbeats 6400000 in
set_option maxRecDepth 100000 in
theorem mrenew_any (b mb n k : Nat) (ps : List S) (nm : ByteArray) (ao : Option Addr) (acap : Nat) (rv fv dv ev : Value) (fds0 : List F) (w : World) (hS : StC w b mb nm (.slice ao k acap) rv fv dv ev)
    (ho : OwnC w mb n (cntF ps) (memB ps)) (hbm : b ≠ mb) (hk6 : k ≤ 6) (hf : RdF w fv fds0) (hfl : fds0.length ≤ 1000) (hff : FarV fv (some b)) :
    Calls Tryz.prog 30 #[.pointer (some ⟨b, 0, none⟩)] w (RenP b mb k ps nm (.slice ao k acap) rv w) := by
  have MI := hid (mmin_any b mb n k ps ao acap w hS.c1 hS.c3 ho hk6)
  have HS := hid hS
  have HF := hid hf
  have HFF := hid hff
  have HFL := hid hfl
  have H6 := hid hk6
  obtain ⟨fo, fcap, rfl, -⟩ := hf
  obtain ⟨c0, c1, c2, c3, c4, c5, c6, cf⟩ := hS
  clear ho hff hfl
  go_enter Tryz.func30, Tryz.ntmps30
  go_wp2_with fail
  refine MI.out.mono ?_
  rintro e w1 ⟨v1, xs, rfl, hord, hxl, hown, hb1⟩
  have HORD := hid hord
  have HXL := hid hxl
  have HO := hid hown
  have HB1 := hid hb1
  have S1 := hid (HS.out.below hb1)
  have ML := hid (show (minO (qB k ps) k xs xs.length).length ≤ 1000 from by
    have h1 := minO_length (qB k ps) k xs xs.length
    have h2 : xs.length * k ≤ 64 * 6 := Nat.mul_le_mul HXL.out H6.out
    omega)
  obtain ⟨MM, hMM⟩ : ∃ MM, minO (qB k ps) k xs xs.length = MM := ⟨_, rfl⟩
  rw [hMM] at HO ML
  have HMM := hid hMM
  have R1 := hid (RdC.of_owns cF_length HO.out (by have := ML.out; omega))
  obtain ⟨o1, cap1, rfl, -⟩ := R1.out
  have FR := hid (fun j (hj : j < w.heap.size) => far_own HO.out hj)
  have BLT := hid HS.out.lt
  have S2 := hid (S1.out.set4 (.slice o1 MM.length cap1))
  have R2 := hid (RdC.setFar (p := ⟨b, 4, none⟩) (u := .slice o1 MM.length cap1) R1.out (FR.out b BLT.out))
  have F2 := hid (RdC.setFar (p := ⟨b, 4, none⟩) (u := .slice o1 MM.length cap1) (RdC.below HF.out hb1) HFF.out)
  have G2 := hid (show w.grownBy (w1.setCell ⟨b, 4, none⟩ (.slice o1 MM.length cap1)) (some b) from grow_trans' (grow_of_below hb1) (grown_setM w1 ⟨b, 4, none⟩ _))
  obtain ⟨d0, d1, d2, d3, d4, d5, d6, df⟩ := S1.out
  have df4 := df 4
  obtain ⟨w2, hw2⟩ : ∃ w2 : World, w1.setCell ⟨b, 4, none⟩ (.slice o1 MM.length cap1) = w2 := ⟨_, rfl⟩
  rw [hw2] at S2 R2 F2 G2
  have W2 := hid hw2
  clear hord hxl hown hb1 hMM hw2 c0 c1 c2 c3 c4 c5 c6 cf df
  go_wp2_with fail
  rw [W2.out]
  clear d0 d1 d2 d3 d4 d5 d6 df4
  have WA := hid (fun (W : World) (h : Below w2.heap.size w2 W) => mwithout_any MM fds0 (.slice o1 MM.length cap1) (.slice fo fds0.length fcap) W (RdC.below R2.out h) (RdC.below F2.out h) (by have := ML.out; omega))
  have WB := hid (fun (W : World) (h : Below w2.heap.size w2 W) => mwithout_any fds0 MM (.slice fo fds0.length fcap) (.slice o1 MM.length cap1) W (RdC.below F2.out h) (RdC.below R2.out h) HFL.out)
  have SK := hid (fun (W : World) (h : Below w2.heap.size w2 W) => S2.out.below h)
  obtain ⟨d0, d1, d2, d3, d4, d5, d6, df⟩ := S2.out
  have HD := hid (show Below w2.heap.size w2 w2.drew from (Below.refl _ _).drew)
  go_region_law (first
    | (go_simp; go_at_call 70; refine (WA.out w2.drew HD.out).mono ?_; clear WA; rintro e wa ⟨va, rfl, hoa, hba⟩; have hLa := HD.out.trans hba; obtain ⟨oa, na, capa, rfl⟩ := own_sliceK hoa; obtain ⟨e0, e1, e2, e3, e4, e5, e6, ef⟩ := SK.out wa hLa; clear hba hoa)
    | (go_simp; go_at_call 70; refine (WB.out _ hLa).mono ?_; rintro e wb ⟨vb, rfl, hob, hbb⟩; have hLb := hLa.trans (hbb.mono hLa.size); obtain ⟨ob, nb, capb, rfl⟩ := own_sliceK hob; have SB := hid (SK.out wb hLb); obtain ⟨g0, g1, g2, g3, g4, g5, g6, gf⟩ := SB.out; have gf5 := gf 5; have gf6 := gf 6; clear hbb hob))
  all_goals
    have P1 := hid (show StC ((wb.setCell ⟨b, 5, none⟩ (.slice oa na capa)).setCell ⟨b, 6, none⟩ (.slice ob nb capb)) b mb nm (.slice ao k acap) rv (.slice o1 MM.length cap1) (.slice oa na capa) (.slice ob nb capb) from (SB.out.set5 _).set6 _)
    have P2 := hid (show StC ((wb.setCell ⟨b, 6, none⟩ (.slice ob nb capb)).setCell ⟨b, 5, none⟩ (.slice oa na capa)) b mb nm (.slice ao k acap) rv (.slice o1 MM.length cap1) (.slice oa na capa) (.slice ob nb capb) from (SB.out.set6 _).set5 _)
    have RB := RdC.below R2.out hLb
    have GB := grow_trans' G2.out (grow_of_below (o := some b) hLb)
    have FB := FR.out b BLT.out
    have Q1 := hid (RdC.setFar (p := ⟨b, 6, none⟩) (u := .slice ob nb capb) (RdC.setFar (p := ⟨b, 5, none⟩) (u := .slice oa na capa) RB FB) FB)
    have Q2 := hid (RdC.setFar (p := ⟨b, 5, none⟩) (u := .slice oa na capa) (RdC.setFar (p := ⟨b, 6, none⟩) (u := .slice ob nb capb) RB FB) FB)
    have H1 := hid (grow_trans' (grow_trans' GB (grown_setM wb ⟨b, 5, none⟩ (.slice oa na capa))) (grown_setM _ ⟨b, 6, none⟩ (.slice ob nb capb)))
    have H2 := hid (grow_trans' (grow_trans' GB (grown_setM wb ⟨b, 6, none⟩ (.slice ob nb capb))) (grown_setM _ ⟨b, 5, none⟩ (.slice oa na capa)))
    have RR1 := hid (show RenP b mb k ps nm (.slice ao k acap) rv w (.returned (.tuple #[])) ((wb.setCell ⟨b, 5, none⟩ (.slice oa na capa)).setCell ⟨b, 6, none⟩ (.slice ob nb capb)) from ⟨rfl, _, _, _, xs, P1.out, HORD.out, HXL.out, by rw [HMM.out]; exact Q1.out, FR.out, H1.out⟩)
    have RR2 := hid (show RenP b mb k ps nm (.slice ao k acap) rv w (.returned (.tuple #[])) ((wb.setCell ⟨b, 6, none⟩ (.slice ob nb capb)).setCell ⟨b, 5, none⟩ (.slice oa na capa)) from ⟨rfl, _, _, _, xs, P2.out, HORD.out, HXL.out, by rw [HMM.out]; exact Q2.out, FR.out, H2.out⟩)
    clear P1 P2 RB GB FB Q1 Q2 H1 H2
    go_wp2_with fail
    go_end0
    first | exact RR1.out | exact RR2.out

end Go.Proofs.YtdiafhbbmliefaaGreatDoor


/- The maintained state; the walk of State.Insert. -/
namespace Go.Proofs.YtdiafhbbmliefaaGreatDoor
open Go.RowKit
set_option linter.unusedVariables false

/-- What a change of a table gives: an error, or new rows of which R holds. -/
def ResQ (R : List Row3 → Prop) (t : T3) (w : World) (e : Ending) (w' : World) : Prop :=
  ∃ (n' : ByteArray) (ao : Option Addr) (an ac : Nat) (ro : Option Addr) (rn rc : Nat) (x : Int), e = .returned (.tuple #[.agg #[.string n', .slice ao an ac, .slice ro rn rc], .int .i64 x]) ∧
    (x = 0 → n' = t.1 ∧ ∃ rs', R rs' ∧ RdT w' (.slice ao an ac) (.slice ro rn rc) (t.1, t.2.1, rs') ∧ FreT w.heap.size (.slice ao an ac) (.slice ro rn rc) rs') ∧ Below w.heap.size w w'
def insR (rs : List Row3) (m : Nat) (id : Int) (ys : List V3) (rs' : List Row3) : Prop :=
  ∃ (a b : List Row3) (u' : Value), cpAs rs (a ++ b) ∧ rs' = a ++ (id, u', ys) :: b ∧ (∀ r ∈ a, r.1 < id) ∧ (∀ r ∈ b, id < r.1) ∧ 0 < id ∧ ys.length = m ∧ ys.any badV = false
def delR (rs : List Row3) (id : Int) (rs' : List Row3) : Prop :=
  ∃ (i : Nat) (r : Row3), fnd rs id = some i ∧ rs[i]? = some r ∧ r.1 = id ∧ cpAs (rs.take i ++ rs.drop (i + 1)) rs'
def chR (rs : List Row3) (m : Nat) (id att : Int) (x : V3) (rs' : List Row3) : Prop :=
  ∃ (i a : Nat) (r : Row3), fnd rs id = some i ∧ rs[i]? = some r ∧ r.1 = id ∧ att = (a : Int) ∧ a < m ∧ badV x = false ∧ cpAs (rs.set i (r.1, r.2.1, r.2.2.set a x)) rs'
theorem InsQ.res {t : T3} {id : Int} {ys : List V3} {w w' : World} {e : Ending} (h : InsQ t id ys w e w') : ResQ (insR t.2.2 t.2.1.length id ys) t w e w' := by
  obtain ⟨n', av', rv', x, rfl, h1, h2, hb⟩ := h
  by_cases hx : x = 0
  · obtain ⟨hn, a, b, u', hcp, hT, hF, ha, hbb, h0, hl, hbad⟩ := h1 hx
    obtain ⟨ao, ac, rfl, -⟩ := hT.1.split
    obtain ⟨ro, rc, rfl, -⟩ := RdR.split hT.2
    exact ⟨n', ao, _, ac, ro, _, rc, x, rfl, fun _ => ⟨hn, _, ⟨a, b, u', hcp, rfl, ha, hbb, h0, hl, hbad⟩, hT, hF⟩, hb⟩
  · obtain ⟨rfl, rfl⟩ := h2 hx
    exact ⟨n', none, 0, 0, none, 0, 0, x, rfl, fun h => absurd h hx, hb⟩
theorem DelQ.res {t : T3} {id : Int} {w w' : World} {e : Ending} (h : DelQ t id w e w') : ResQ (delR t.2.2 id) t w e w' := by
  obtain ⟨n', av', rv', x, rfl, h1, h2, hb⟩ := h
  by_cases hx : x = 0
  · obtain ⟨hn, i, r, rs', hf, hr, hid0, hcp, hT, hF⟩ := h1 hx
    obtain ⟨ao, ac, rfl, -⟩ := hT.1.split
    obtain ⟨ro, rc, rfl, -⟩ := RdR.split hT.2
    exact ⟨n', ao, _, ac, ro, _, rc, x, rfl, fun _ => ⟨hn, _, ⟨i, r, hf, hr, hid0, hcp⟩, hT, hF⟩, hb⟩
  · obtain ⟨rfl, rfl⟩ := h2 hx
    exact ⟨n', none, 0, 0, none, 0, 0, x, rfl, fun h => absurd h hx, hb⟩
theorem ChQ.res {t : T3} {id att : Int} {x : V3} {w w' : World} {e : Ending} (h : ChQ t id att x w e w') : ResQ (chR t.2.2 t.2.1.length id att x) t w e w' := by
  obtain ⟨n', av', rv', k, rfl, h1, h2, hb⟩ := h
  by_cases hx : k = 0
  · obtain ⟨hn, i, a, r, rs', hf, hr, hid0, ha, hal, hbv, hcp, hT, hF⟩ := h1 hx
    obtain ⟨ao, ac, rfl, -⟩ := hT.1.split
    obtain ⟨ro, rc, rfl, -⟩ := RdR.split hT.2
    exact ⟨n', ao, _, ac, ro, _, rc, k, rfl, fun _ => ⟨hn, _, ⟨i, a, r, hf, hr, hid0, ha, hal, hbv, hcp⟩, hT, hF⟩, hb⟩
  · obtain ⟨rfl, rfl⟩ := h2 hx
    exact ⟨n', none, 0, 0, none, 0, 0, k, rfl, fun h => absurd h hx, hb⟩

/-- What a box of a new table tells. -/
structure BoxT (R : List Row3 → Prop) (nm : ByteArray) (ats : List ByteArray) (w0 wx : World) (q : Nat) (x : Int) (n' : ByteArray) (av' rv' : Value) : Prop where
  c0 : wx.cell? ⟨q, 0, none⟩ = some (.string n')
  c1 : wx.cell? ⟨q, 1, none⟩ = some av'
  c2 : wx.cell? ⟨q, 2, none⟩ = some rv'
  lo : w0.heap.size ≤ q
  ok : x = 0 → n' = nm ∧ ∃ rs', R rs' ∧ RdT wx av' rv' (nm, ats, rs') ∧ FreT w0.heap.size av' rv' rs'
  below : Below w0.heap.size w0 wx
theorem BoxT.alloc {R : List Row3 → Prop} {nm : ByteArray} {ats : List ByteArray} {w0 w1 w2 : World} {x : Int} {n' : ByteArray} {av' rv' : Value} (h1 : Below w0.heap.size w0 w1) (hb : Below w1.heap.size w1 w2)
    (hok : x = 0 → n' = nm ∧ ∃ rs', R rs' ∧ RdT w2 av' rv' (nm, ats, rs') ∧ FreT w1.heap.size av' rv' rs') : BoxT R nm ats w0 (w2.alloc (.cells #[.string n', av', rv'] 48)) w2.heap.size x n' av' rv' := by
  obtain ⟨z0, z1, z2⟩ := cells3 (w := w2) (a := .string n') (b := av') (c := rv') (t := 48) _ (Below.refl _ _)
  have hb0 := h1.trans (hb.mono h1.size)
  refine ⟨z0, z1, z2, hb0.size, fun hx => ?_, hb0.alloc hb0.size _⟩
  obtain ⟨hn, rs', hR, hT, hF⟩ := hok hx
  exact ⟨hn, rs', hR, hT.below (below_alloc _ _), fun j hj => hF j (Nat.lt_of_lt_of_le hj h1.size)⟩
theorem BoxT.store {R : List Row3 → Prop} {nm : ByteArray} {ats : List ByteArray} {w0 w1 w2 : World} {q : Nat} {x : Int} {n' : ByteArray} {av' rv' a0 b0 c0 : Value} (h1 : Below w0.heap.size w0 w1) (hb : Below w1.heap.size w1 w2) (hq : w0.heap.size ≤ q) (hq1 : q < w1.heap.size)
    (z0 : w2.cell? ⟨q, 0, none⟩ = some a0) (z1 : w2.cell? ⟨q, 1, none⟩ = some b0) (z2 : w2.cell? ⟨q, 2, none⟩ = some c0)
    (hok : x = 0 → n' = nm ∧ ∃ rs', R rs' ∧ RdT w2 av' rv' (nm, ats, rs') ∧ FreT w1.heap.size av' rv' rs') : BoxT R nm ats w0 (((w2.setCell ⟨q, 0, none⟩ (.string n')).setCell ⟨q, 1, none⟩ av').setCell ⟨q, 2, none⟩ rv') q x n' av' rv' := by
  obtain ⟨r0, r1, r2⟩ := set3w z0 z1 z2 (x := .string n') (y := av') (z := rv') rfl
  have hb0 := h1.trans (hb.mono h1.size)
  refine ⟨r0, r1, r2, hq, fun hx => ?_, ((hb0.setCell (p := ⟨q, 0, none⟩) hq _).setCell (p := ⟨q, 1, none⟩) hq _).setCell (p := ⟨q, 2, none⟩) hq _⟩
  obtain ⟨hn, rs', hR, hT, hF⟩ := hok hx
  obtain ⟨f1, f2, f3⟩ := hF q hq1
  exact ⟨hn, rs', hR, hT.set3 f1 f2 f3, fun j hj => hF j (Nat.lt_of_lt_of_le hj h1.size)⟩

/-- A state that is kept up to date. -/
def St (b mb N : Nat) (nm : ByteArray) (ats : List ByteArray) (w : World) : Prop :=
  ∃ (av rv fv dv ev : Value) (rs : List Row3) (ps xs : List S) (n : Nat), StC w b mb nm av rv fv dv ev ∧ b ≠ mb ∧ RdT w av rv (nm, ats, rs) ∧ (∀ j, j = b ∨ j = mb → FarV av (some j) ∧ FarV rv (some j) ∧ FarV fv (some j) ∧ ∀ r ∈ rs, FarV r.2.1 (some j)) ∧
    tabE (nm, ats, rs) = 0 ∧ NumR rs ∧ rs.length ≤ N ∧ OwnC w mb n (cntF ps) (memB ps) ∧ n ≤ 40 * N ∧ ps.Perm (pairsS rs) ∧ IsOrd xs (fun s => sub s (fullN ats.length)) ∧ xs.length ≤ 64 ∧ RdF w fv (minO (qB ats.length ps) ats.length xs xs.length)
/-- Behind a method: the state, and all else as it was. -/
def StQ (b mb N : Nat) (nm : ByteArray) (ats : List ByteArray) (w : World) (e : Ending) (w' : World) : Prop :=
  (∃ x : Int, e = .returned (.int .i64 x)) ∧ St b mb N nm ats w' ∧ ∀ B, B ≤ b → B ≤ mb → B ≤ w.heap.size → Below B w w'
theorem St.below {b mb N : Nat} {nm : ByteArray} {ats : List ByteArray} {w w' : World} (h : St b mb N nm ats w) (hb : Below w.heap.size w w') : St b mb N nm ats w' := by
  obtain ⟨av, rv, fv, dv, ev, rs, ps, xs, n, hS, hne, hT, hF, hE, hN, hl, hO, hn, hp, hx, hxl, hf⟩ := h
  exact ⟨av, rv, fv, dv, ev, rs, ps, xs, n, hS.below hb, hne, hT.below hb, hF, hE, hN, hl, hO.below hb, hn, hp, hx, hxl, RdC.below hf hb⟩
theorem St.more {b mb N M : Nat} {nm : ByteArray} {ats : List ByteArray} {w : World} (h : St b mb N nm ats w) (hM : N ≤ M) : St b mb M nm ats w := by
  obtain ⟨av, rv, fv, dv, ev, rs, ps, xs, n, hS, hne, hT, hF, hE, hN, hl, hO, hn, hp, hx, hxl, hf⟩ := h
  exact ⟨av, rv, fv, dv, ev, rs, ps, xs, n, hS, hne, hT, hF, hE, hN, by omega, hO, by omega, hp, hx, hxl, hf⟩
theorem fds_len {k : Nat} {ps xs : List S} (hk : k ≤ 6) (hx : xs.length ≤ 64) : (minO (qB k ps) k xs xs.length).length ≤ 1000 := by
  have h1 := minO_length (qB k ps) k xs xs.length
  have h2 : xs.length * k ≤ 64 * 6 := Nat.mul_le_mul hx hk
  omega
theorem pairs_len {rs : List Row3} {ps : List S} (h : ps.Perm (pairsS rs)) (hl : rs.length ≤ 100) : ps.length ≤ 40000 := by
  rw [h.length_eq]
  have h1 := pairsS_length rs
  have h2 : rs.length * rs.length ≤ 100 * 100 := Nat.mul_le_mul hl hl
  omega
/-- The last steps of each method: the new table lies in the state, the map is counted: renew. -/
theorem ren_st {b mb N n : Nat} {nm : ByteArray} {ats : List ByteArray} {ao : Option Addr} {acap : Nat} {rv fv dv ev : Value} {rs : List Row3} {ps : List S} {fds0 : List F} {w : World} (hS : StC w b mb nm (.slice ao ats.length acap) rv fv dv ev) (hne : b ≠ mb)
    (hT : RdT w (.slice ao ats.length acap) rv (nm, ats, rs)) (hF : ∀ j, j = b ∨ j = mb → FarV (.slice ao ats.length acap) (some j) ∧ FarV rv (some j) ∧ FarV fv (some j) ∧ ∀ r ∈ rs, FarV r.2.1 (some j)) (hE : tabE (nm, ats, rs) = 0) (hN : NumR rs) (hl : rs.length ≤ N)
    (hO : OwnC w mb n (cntF ps) (memB ps)) (hn : n ≤ 40 * N) (hp : ps.Perm (pairsS rs)) (hk : ats.length ≤ 6) (hf : RdF w fv fds0) (hfl : fds0.length ≤ 1000) :
    Calls Tryz.prog 30 #[.pointer (some ⟨b, 0, none⟩)] w fun e w' => e = .returned (.tuple #[]) ∧ St b mb N nm ats w' ∧ w.grownBy w' (some b) := by
  have hlt := hS.lt
  have hml := hO.lt
  refine (mrenew_any b mb n ats.length ps nm ao acap rv fv dv ev fds0 w hS hO hne hk hf hfl (hF b (.inl rfl)).2.2.1).mono fun e w' ⟨he, fv', dv', ev', xs, hS', hx, hxl, hf', hff, hg⟩ => ⟨he, ?_, hg⟩
  have hb := hF b (.inl rfl)
  refine ⟨_, rv, fv', dv', ev', rs, ps, xs, n, hS', hne, ⟨RdE.grown hT.1 hg hb.1, RdC.grown hT.2.1 hg hb.2.1, fun r hr => RdC.grown (hT.2.2 r hr) hg (hb.2.2.2 r hr)⟩, fun j hj => ⟨(hF j hj).1, (hF j hj).2.1, ?_, (hF j hj).2.2.2⟩, hE, hN, hl, hO.kept hg (by simp; exact fun e => hne e.symm), hn, hp, hx, hxl, hf'⟩
  rcases hj with rfl | rfl
  · exact hff _ hlt
  · exact hff _ hml

end Go.Proofs.YtdiafhbbmliefaaGreatDoor

