/- Texts that belong together, in one file. -/
import Derived.Test.YtgahpgmagfngfaaGreatDoorGNdC
import Derived.Test.YtgahpgmagfngfaaGreatDoorSortI
import Derived.Test.YtgahpgmagfngfaaGreatDoorGSort
import Derived.Deep.RegionHeld3
import Derived.Shelf.SlSortCmp.QuietGrown
import Derived.Test.YtgahpgmagfngfaaGreatDoorNd7
import Derived.Test.YtgahpgmagfngfaaGreatDoorGFdmA
/- The walks of slices.Compare over numbers, of the comparison of indmine.search, and of slices.SortFunc at it. -/
namespace Go.Proofs.YtgahpgmagfngfaaGreatDoor
open Go.RowKit Go.Shelf Go.Lib Go.Sort
set_option linter.unusedVariables false

/-! Plain. -/
def cmpL : List Nat → List Nat → Int
  | [], [] => 0
  | [], _ :: _ => -1
  | _ :: _, [] => 1
  | a :: l, b :: r => if cmpI (a : Int) (b : Int) ≠ 0 then cmpI (a : Int) (b : Int) else cmpL l r
theorem cmpI_lt {a b : Nat} : cmpI (a : Int) (b : Int) < 0 ↔ a < b := by unfold cmpI; split <;> (try split) <;> omega
theorem cmpI_eq {a b : Nat} : cmpI (a : Int) (b : Int) = 0 ↔ a = b := by unfold cmpI; split <;> (try split) <;> omega
theorem cmpL_eq : ∀ {l r : List Nat}, cmpL l r = 0 ↔ l = r := by
  intro l
  induction l with
  | nil => intro r; cases r <;> simp [cmpL]
  | cons a l ih =>
    intro r
    cases r with
    | nil => simp [cmpL]
    | cons b r =>
      unfold cmpL
      by_cases h : cmpI (a : Int) (b : Int) = 0
      · rw [if_neg (by simpa using h), ih, cmpI_eq.1 h]; simp
      · rw [if_pos h]
        constructor
        · intro e; exact absurd e h
        · intro e; simp only [List.cons.injEq] at e; exact absurd (cmpI_eq.2 e.1) h
theorem cmpL_lt : ∀ {l r : List Nat}, cmpL l r < 0 ↔ l < r := by
  intro l
  induction l with
  | nil =>
    intro r
    cases r with
    | nil => simp [cmpL]
    | cons b r => simp [cmpL]
  | cons a l ih =>
    intro r
    cases r with
    | nil => simp [cmpL]
    | cons b r =>
      unfold cmpL
      rw [List.cons_lt_cons_iff]
      by_cases h : cmpI (a : Int) (b : Int) = 0
      · rw [if_neg (by simpa using h), ih]
        have := cmpI_eq.1 h
        constructor
        · intro h2; exact .inr ⟨this, h2⟩
        · rintro (h2 | h2)
          · omega
          · exact h2.2
      · rw [if_pos h, cmpI_lt]
        have := fun e => h (cmpI_eq.2 e)
        constructor
        · intro h2; exact .inl h2
        · rintro (h2 | h2)
          · exact h2
          · exact absurd h2.1 this
def cmpD (x y : DN) : Int := if cmpL x.2.2.1 y.2.2.1 ≠ 0 then cmpL x.2.2.1 y.2.2.1 else cmpL x.2.2.2 y.2.2.2
theorem cmpD_lt (x y : DN) : ltOf cmpD x y = true ↔ x.2.2.1 < y.2.2.1 ∨ (x.2.2.1 = y.2.2.1 ∧ x.2.2.2 < y.2.2.2) := by
  unfold ltOf cmpD
  rw [decide_eq_true_iff]
  by_cases h : cmpL x.2.2.1 y.2.2.1 = 0
  · rw [if_neg (by simpa using h), cmpL_lt]
    have e := cmpL_eq.1 h
    constructor
    · intro h2; exact .inr ⟨e, h2⟩
    · rintro (h2 | h2)
      · rw [e] at h2; exact absurd h2 (List.lt_irrefl _)
      · exact h2.2
  · rw [if_pos h, cmpL_lt]
    constructor
    · intro h2; exact .inl h2
    · rintro (h2 | h2)
      · exact h2
      · exact absurd (cmpL_eq.2 h2.1) h
theorem ltN_tri (l r : List Nat) : l < r ∨ l = r ∨ r < l := by
  rcases List.le_total l r with h | h
  · rcases List.le_iff_lt_or_eq.1 h with h | h
    · exact .inl h
    · exact .inr (.inl h)
  · rcases List.le_iff_lt_or_eq.1 h with h | h
    · exact .inr (.inr h)
    · exact .inr (.inl h.symm)
theorem swoD : SWO (ltOf cmpD) where
  irrefl x := by
    rw [← Bool.not_eq_true, cmpD_lt]
    rintro (h | h)
    · exact List.lt_irrefl _ h
    · exact List.lt_irrefl _ h.2
  trans x y z h1 h2 := by
    rw [cmpD_lt] at *
    rcases h1 with h1 | ⟨e1, h1⟩
    · rcases h2 with h2 | ⟨e2, h2⟩
      · exact .inl (List.lt_trans h1 h2)
      · exact .inl (e2 ▸ h1)
    · rcases h2 with h2 | ⟨e2, h2⟩
      · exact .inl (e1 ▸ h2)
      · exact .inr ⟨e1.trans e2, List.lt_trans h1 h2⟩
  ntrans x y z h1 h2 := by
    rw [← Bool.not_eq_true, cmpD_lt] at *
    intro h3
    have a := ltN_tri x.2.2.1 y.2.2.1
    have b := ltN_tri y.2.2.1 z.2.2.1
    have c := ltN_tri x.2.2.2 y.2.2.2
    have d := ltN_tri y.2.2.2 z.2.2.2
    have q1 : y.2.2.1 < x.2.2.1 ∨ (x.2.2.1 = y.2.2.1 ∧ (y.2.2.2 < x.2.2.2 ∨ x.2.2.2 = y.2.2.2)) := by
      rcases a with a | a | a
      · exact absurd (.inl a) h1
      · refine .inr ⟨a, ?_⟩
        rcases c with c | c | c
        · exact absurd (.inr ⟨a, c⟩) h1
        · exact .inr c
        · exact .inl c
      · exact .inl a
    have q2 : z.2.2.1 < y.2.2.1 ∨ (y.2.2.1 = z.2.2.1 ∧ (z.2.2.2 < y.2.2.2 ∨ y.2.2.2 = z.2.2.2)) := by
      rcases b with b | b | b
      · exact absurd (.inl b) h2
      · refine .inr ⟨b, ?_⟩
        rcases d with d | d | d
        · exact absurd (.inr ⟨b, d⟩) h2
        · exact .inr d
        · exact .inl d
      · exact .inl b
    have asym : ∀ {l r : List Nat}, l < r → r < l → False := fun h1 h2 => List.lt_irrefl _ (List.lt_trans h1 h2)
    rcases h3 with h3 | ⟨e3, h3⟩
    · rcases q1 with q1 | ⟨e1, -⟩
      · rcases q2 with q2 | ⟨e2, -⟩
        · exact asym h3 (List.lt_trans q2 q1)
        · exact asym h3 (e2 ▸ q1)
      · rcases q2 with q2 | ⟨e2, -⟩
        · exact asym h3 (e1 ▸ q2)
        · rw [e1, e2] at h3; exact List.lt_irrefl _ h3
    · rcases q1 with q1 | ⟨e1, q1⟩
      · rcases q2 with q2 | ⟨e2, -⟩
        · have := List.lt_trans q2 q1; rw [e3] at this; exact List.lt_irrefl _ this
        · rw [e3, ← e2] at q1; exact List.lt_irrefl _ q1
      · rcases q2 with q2 | ⟨e2, q2⟩
        · rw [← e1, e3] at q2; exact List.lt_irrefl _ q2
        · rcases q1 with q1 | q1
          · rcases q2 with q2 | q2
            · exact asym h3 (List.lt_trans q2 q1)
            · exact asym h3 (q2 ▸ q1)
          · rcases q2 with q2 | q2
            · exact asym h3 (q1 ▸ q2)
            · rw [q1, q2] at h3; exact List.lt_irrefl _ h3

theorem icompare_any (l r : List Nat) (v u : Value) (w : World) (hl : RdE encI w v l) (hr : RdE encI w u r) :
    Calls Tryz.prog 43 #[v, u] w fun e w' => e = .returned (.int .i64 (cmpL l r)) ∧ w = w' := by
  obtain ⟨ao, acap, rfl, hlb, hc⟩ := hl.split
  have HLB := hid hlb
  obtain ⟨bo, bcap, rfl, -, hd⟩ := hr.split
  have HC := hid hc
  have HD := hid hd
  unfold encI at HC HD
  obtain ⟨R, hR⟩ : ∃ R, cmpL l r = R := ⟨_, rfl⟩
  rw [hR]
  have CI := hid (fun (x y : Int) (W : World) => cmpInt_any x y W)
  have H0 := hid hR
  clear hc hd hl hr hR hlb
  go_enter Tryz.func43, Tryz.ntmps43
  go_wp2_with fail
  go_loop [11] (fun i => ∃ k : Nat, k ≤ l.length ∧ i = .int .i64 k ∧ Hid (k ≤ r.length ∧ cmpL (l.drop k) (r.drop k) = R)) (fun i => l.length - (intOf i).toNat)
  case atStart => exact ⟨0, Nat.zero_le _, rfl, hid ⟨Nat.zero_le _, H0.out⟩⟩
  case round =>
    obtain ⟨k, hk, rfl, H⟩ := hrel
    have k9 : (k : Int) ≤ 35184372088832 := by have := HLB.out; omega
    have k0 : (0 : Int) ≤ (k : Int) := by omega
    by_cases hlt : k < l.length
    · have hltI : (k : Int) < (l.length : Int) := by omega
      obtain ⟨x, hx⟩ := get_some hlt
      obtain ⟨b, off, rfl, hcx⟩ := HC.out k x hx
      have e0 := hcx w (Below.refl _ _)
      have DL := hid (show l.drop k = x :: l.drop (k + 1) by rw [List.drop_eq_getElem_cons hlt, (List.getElem?_eq_some_iff.1 hx).2])
      clear hcx hx
      by_cases hrt : k < r.length
      · have hrI : (k : Int) < (r.length : Int) := by omega
        have hrd : decide ((k : Int) ≥ (r.length : Int)) = false := by simp; omega
        have hrn : ¬ ((k : Int) ≥ (r.length : Int)) := by omega
        obtain ⟨y, hy⟩ := get_some hrt
        obtain ⟨b2, off2, rfl, hdy⟩ := HD.out k y hy
        have e1 := hdy w (Below.refl _ _)
        have DR := hid (show r.drop k = y :: r.drop (k + 1) by rw [List.drop_eq_getElem_cons hrt, (List.getElem?_eq_some_iff.1 hy).2])
        have C1 := hid (CI.out (x : Int) (y : Int) w)
        have ST := hid (show (if cmpI (x : Int) (y : Int) ≠ 0 then cmpI (x : Int) (y : Int) else cmpL (l.drop (k + 1)) (r.drop (k + 1))) = R from by
          have h := H.out.2; rw [DL.out, DR.out] at h; exact h)
        clear hdy hy
        generalize cmpI (x : Int) (y : Int) = c at *
        by_cases hc : c = 0
        · have hcI : (c != 0) = false := by rw [hc]; rfl
          have N1 := hid (show k + 1 ≤ r.length ∧ cmpL (l.drop (k + 1)) (r.drop (k + 1)) = R from ⟨hrt, by have h := ST.out; rwa [if_neg (by simpa using hc)] at h⟩)
          clear hc
          go_wp2_with fail
          refine C1.out.mono ?_
          rintro e w' ⟨rfl, rfl⟩
          go_wp2_with fail
          go_round
          case rel => exact ⟨k + 1, by omega, by go_num, N1⟩
          case measure => simp [intOf]; omega
        · have hcI : (c != 0) = true := by simpa using hc
          have N1 := hid (show c = R by have h := ST.out; rwa [if_pos hc] at h)
          clear hc
          go_wp2_with fail
          refine C1.out.mono ?_
          rintro e w' ⟨rfl, rfl⟩
          go_wp2_with fail
          go_ret
          exact ⟨by rw [← N1.out]; rfl, rfl⟩
      · have hrd : decide ((k : Int) ≥ (r.length : Int)) = true := by simp; omega
        have hrn : (k : Int) ≥ (r.length : Int) := by omega
        have N1 := hid (show 1 = R by have h := H.out.2; rw [DL.out, List.drop_eq_nil_of_le (show r.length ≤ k by omega)] at h; exact h)
        go_wp2_with fail
        go_ret
        exact ⟨by rw [← N1.out]; rfl, rfl⟩
    · have hke : k = l.length := by omega
      have N0 := hid (show l.length ≤ r.length ∧ cmpL [] (r.drop l.length) = R by
        have h := H.out
        rw [hke] at h
        rw [List.drop_eq_nil_of_le (show l.length ≤ l.length from Nat.le_refl _)] at h
        exact h)
      by_cases hll : l.length < r.length
      · have hlI : (l.length : Int) < (r.length : Int) := by omega
        have N1 := hid (show -1 = R by
          have h := N0.out.2
          rw [List.drop_eq_getElem_cons hll] at h
          exact h)
        go_wp2_with fail
        go_ret
        exact ⟨by rw [← N1.out]; rfl, rfl⟩
      · have hlI : ¬ (l.length : Int) < (r.length : Int) := by omega
        have N1 := hid (show 0 = R by
          have h := N0.out.2
          rw [List.drop_eq_nil_of_le (show r.length ≤ l.length by omega)] at h
          exact h)
        go_wp2_with fail
        go_ret
        exact ⟨by rw [← N1.out]; rfl, rfl⟩

/-- A world with draws and blocks behind another one. -/
def GrE (w W : World) : Prop := ∃ q os, W = Sort.grow (w.drewN q) os
theorem GrE.refl (w : World) : GrE w w := ⟨0, #[], by simp [Sort.grow, World.drewN]⟩
theorem GrE.drewN {w W : World} (h : GrE w W) (n : Nat) : GrE w (W.drewN n) := by
  obtain ⟨q, os, rfl⟩ := h
  exact ⟨q + n, os, by simp [Sort.grow, World.drewN, Nat.add_assoc]⟩
theorem GrE.drew {w W : World} (h : GrE w W) : GrE w W.drew := h.drewN 1
theorem GrE.trans {u v w : World} (h : GrE u v) (k : GrE v w) : GrE u w := by
  obtain ⟨q, os, rfl⟩ := h
  obtain ⟨r, pt, rfl⟩ := k
  exact ⟨q + r, os ++ pt, by
    rw [← Sort.grow_grow]
    simp [Sort.grow, World.drewN, Nat.add_assoc]⟩
theorem GrE.alloc {w W : World} (h : GrE w W) (o : Obj) : GrE w (W.alloc o) := by
  obtain ⟨q, os, rfl⟩ := h
  exact ⟨q, os ++ #[o], by rw [Sort.alloc_eq_grow, Sort.grow_grow]⟩
theorem GrE.below {w W : World} (h : GrE w W) : Below w.heap.size w W := by
  obtain ⟨q, os, rfl⟩ := h
  refine ⟨rfl, rfl, rfl, by simp [Sort.grow, World.drewN], fun k hk => ?_⟩
  show (w.heap ++ os)[k]? = w.heap[k]?
  rw [Array.getElem?_append_left hk]

set_option maxHeartbeats 6400000 in
set_option maxRecDepth 100000 in
theorem scmp_any (x y : I6) (w : World) (hx : RdE encI w x.1 x.2.2.2.2.1 ∧ RdE encI w x.2.1 x.2.2.2.2.2) (hy : RdE encI w y.1 y.2.2.2.2.1 ∧ RdE encI w y.2.1 y.2.2.2.2.2) :
    Calls Tryz.prog 41 #[.agg (cI x).toArray, .agg (cI y).toArray] w fun e w' => e = .returned (.int .i64 (cmpD x.2.2 y.2.2)) ∧ GrE w w' := by
  obtain ⟨x1, x2, xf, xt, xl, xr⟩ := x
  obtain ⟨y1, y2, yf, yt, yl, yr⟩ := y
  obtain ⟨a1, a2, ha, -⟩ := hx.1.split
  obtain ⟨b1, b2, hb, -⟩ := hx.2.split
  obtain ⟨c1, c2, hc, -⟩ := hy.1.split
  obtain ⟨d1, d2, hd, -⟩ := hy.2.split
  simp only at ha hb hc hd
  subst ha hb hc hd
  show Calls Tryz.prog 41 #[.agg #[.string (nmT xf), .slice a1 xl.length a2, .string (nmT xt), .slice b1 xr.length b2], .agg #[.string (nmT yf), .slice c1 yl.length c2, .string (nmT yt), .slice d1 yr.length d2]] w fun e w' => e = .returned (.int .i64 (if cmpL xl yl ≠ 0 then cmpL xl yl else cmpL xr yr)) ∧ GrE w w'
  have ba := below_alloc w (.cells #[.string (nmT xf), .slice a1 xl.length a2, .string (nmT xt), .slice b1 xr.length b2] 39)
  have e1 : (w.alloc (.cells #[.string (nmT xf), .slice a1 xl.length a2, .string (nmT xt), .slice b1 xr.length b2] 39)).cell? ⟨w.heap.size, 1, none⟩ = some (.slice a1 xl.length a2) := by simp
  have e3 : (w.alloc (.cells #[.string (nmT xf), .slice a1 xl.length a2, .string (nmT xt), .slice b1 xr.length b2] 39)).cell? ⟨w.heap.size, 3, none⟩ = some (.slice b1 xr.length b2) := by simp
  have s1 : (w.alloc (.cells #[.string (nmT xf), .slice a1 xl.length a2, .string (nmT xt), .slice b1 xr.length b2] 39)).heap.size = w.heap.size + 1 := by simp
  obtain ⟨w1, hw1⟩ : ∃ w1 : World, w.alloc (.cells #[.string (nmT xf), .slice a1 xl.length a2, .string (nmT xt), .slice b1 xr.length b2] 39) = w1 := ⟨_, rfl⟩
  have g1 : GrE w w1 := by rw [← hw1]; exact (GrE.refl w).alloc _
  rw [hw1] at ba e1 e3 s1
  have bb := below_alloc w1 (.cells #[.string (nmT yf), .slice c1 yl.length c2, .string (nmT yt), .slice d1 yr.length d2] 39)
  have f1 : (w1.alloc (.cells #[.string (nmT yf), .slice c1 yl.length c2, .string (nmT yt), .slice d1 yr.length d2] 39)).cell? ⟨w1.heap.size, 1, none⟩ = some (.slice c1 yl.length c2) := by simp
  have f3 : (w1.alloc (.cells #[.string (nmT yf), .slice c1 yl.length c2, .string (nmT yt), .slice d1 yr.length d2] 39)).cell? ⟨w1.heap.size, 3, none⟩ = some (.slice d1 yr.length d2) := by simp
  obtain ⟨w0, hw0⟩ : ∃ w0 : World, w1.alloc (.cells #[.string (nmT yf), .slice c1 yl.length c2, .string (nmT yt), .slice d1 yr.length d2] 39) = w0 := ⟨_, rfl⟩
  have g0 := hid (show GrE w w0 by rw [← hw0]; exact g1.alloc _)
  rw [hw0] at bb f1 f3
  rw [s1] at f1 f3
  replace e1 := (bb.cell (p := ⟨w.heap.size, 1, none⟩) (by show w.heap.size < _; omega)).trans e1
  replace e3 := (bb.cell (p := ⟨w.heap.size, 3, none⟩) (by show w.heap.size < _; omega)).trans e3
  have W0 := hid (show (w.alloc (.cells #[.string (nmT xf), .slice a1 xl.length a2, .string (nmT xt), .slice b1 xr.length b2] 39)).alloc (.cells #[.string (nmT yf), .slice c1 yl.length c2, .string (nmT yt), .slice d1 yr.length d2] 39) = w0 by rw [hw1, hw0])
  have RX := hid (fun (W : World) (h : GrE w0 W) => icompare_any xl yl (.slice a1 xl.length a2) (.slice c1 yl.length c2) W (hx.1.below (g0.out.trans h).below) (hy.1.below (g0.out.trans h).below))
  have RY := hid (fun (W : World) (h : GrE w0 W) => icompare_any xr yr (.slice b1 xr.length b2) (.slice d1 yr.length d2) W (hx.2.below (g0.out.trans h).below) (hy.2.below (g0.out.trans h).below))
  have HS := hid (fun (W : World) (h : GrE w0 W) => show GrE w0 W ∧ (W.cell? ⟨w.heap.size, 1, none⟩ = some (.slice a1 xl.length a2) ∧ W.cell? ⟨w.heap.size, 3, none⟩ = some (.slice b1 xr.length b2)) ∧ W.cell? ⟨w.heap.size + 1, 1, none⟩ = some (.slice c1 yl.length c2) ∧ W.cell? ⟨w.heap.size + 1, 3, none⟩ = some (.slice d1 yr.length d2) from
    ⟨h, ⟨(h.below.cell (p := ⟨w.heap.size, 1, none⟩) (World.block_lt_of_cell? _ _ e1)).trans e1, (h.below.cell (p := ⟨w.heap.size, 3, none⟩) (World.block_lt_of_cell? _ _ e3)).trans e3⟩, (h.below.cell (p := ⟨w.heap.size + 1, 1, none⟩) (World.block_lt_of_cell? _ _ f1)).trans f1, (h.below.cell (p := ⟨w.heap.size + 1, 3, none⟩) (World.block_lt_of_cell? _ _ f3)).trans f3⟩)
  clear ba bb s1 hw1 hw0 g1 hx hy
  have C5 := hid (or_any (cmpL xl yl) (cmpL xr yr))
  generalize cmpL xl yl = p at *
  generalize cmpL xr yr = q at *
  obtain ⟨z, hz⟩ : ∃ z, (if p ≠ 0 then p else q) = z := ⟨_, rfl⟩
  rw [hz] at C5 ⊢
  clear hz
  have C6 := hid (C5.out w0.heap.size (w0.alloc (.cells #[.int .i64 p, .int .i64 q] 3)).drew (by rw [World.cell?_drew]; exact cell_two.1) (by rw [World.cell?_drew]; exact cell_two.2))
  go_enter Tryz.func41, Tryz.ntmps41
  go_upto_region 1 with fail
  rw [W0.out]
  go_region_held3 (fun W => GrE w0 W ∧ (W.cell? ⟨w.heap.size, 1, none⟩ = some (.slice a1 xl.length a2) ∧ W.cell? ⟨w.heap.size, 3, none⟩ = some (.slice b1 xr.length b2)) ∧ W.cell? ⟨w.heap.size + 1, 1, none⟩ = some (.slice c1 yl.length c2) ∧ W.cell? ⟨w.heap.size + 1, 3, none⟩ = some (.slice d1 yr.length d2))
    (first | exact HS.out _ (GrE.refl _).drew | exact HS.out _ ((GrE.refl _).drewN _) | exact HS.out _ (by assumption) | exact HS.out _ (GrE.alloc (GrE.refl _).drew _) | exact HS.out _ (GrE.alloc (by assumption) _) | exact HS.out _ (GrE.drew (by assumption)))
    (first
      | (go_at_call 43; have hS := And.left ‹GrE w0 _ ∧ _ ∧ _›; (with_reducible refine (RX.out _ hS).mono ?_); rintro e w' ⟨rfl, rfl⟩; clear hS)
      | (go_at_call 43; have hS := And.left ‹GrE w0 _ ∧ _ ∧ _›; (with_reducible refine (RY.out _ hS).mono ?_); rintro e w' ⟨rfl, rfl⟩; clear hS)
      | (go_at_call 42; (refine C6.out.mono ?_); rintro e w' ⟨rfl, rfl⟩))
  all_goals
    have HG := hid ((g0.out.trans (GrE.refl w0).drew).alloc (.cells #[.int .i64 p, .int .i64 q] 3))
    go_wp2_with fail
    go_ret
    exact ⟨rfl, HG.out⟩

theorem RdE.grownI {α : Type} {f : α → Value} {w w' : World} {v : Value} {xs : List α} {o : Option Nat} (h : RdE f w v xs) (hg : w.grownBy w' o) (hf : FarV v o) : RdE f w' v xs := by
  obtain ⟨ao, cap, rfl, h1, h2, h3⟩ := h
  refine ⟨ao, cap, rfl, h1, h2, fun hp => ?_⟩
  obtain ⟨b, off, rfl, hlt, hc⟩ := h3 hp
  refine ⟨b, off, rfl, Nat.lt_of_lt_of_le hlt hg.size, fun j u hu => ?_⟩
  exact (hg.cell_far ⟨b, off + j, none⟩ hlt (fun e => hf _ _ _ rfl hp e.symm)).trans (hc j u hu)
theorem cI_cells (x : I6) : (cI x).length = 4 := rfl
theorem flatK_cI {α : Type} [Inhabited α] (c : α → List Value) (hc : ∀ x, (c x).length = 4) (xs : List α) : flatK c 4 xs.toArray = (xs.flatMap c).toArray := by
  have hfl := flat_length hc xs
  apply ext_get!
  · simp [hfl]
  · intro t ht
    rw [size_flatK] at ht
    rw [get_flatK _ _ _ _ ht]
    have ht2 : t < xs.length * 4 := by simpa using ht
    have hi : t / 4 < xs.length := by omega
    have hx : xs[t / 4]? = some xs[t / 4] := List.getElem?_eq_getElem hi
    have hj : t % 4 < 4 := Nat.mod_lt _ (by decide)
    have hu : (c xs[t / 4])[t % 4]? = some ((c xs[t / 4])[t % 4]'(by rw [hc]; exact hj)) := List.getElem?_eq_getElem _
    have h1 := flat_at hc xs (t / 4) _ (t % 4) _ hx hu
    rw [show t / 4 * 4 + t % 4 = t by omega] at h1
    have h2 : (xs.flatMap c).toArray[t]! = (c xs[t / 4])[t % 4]'(by rw [hc]; exact hj) := by
      have h3 := List.getElem?_eq_some_iff.1 h1
      rw [getElem!_pos _ _ (by simpa using h3.1)]
      simpa using h3.2
    have h4 : xs.toArray[t / 4]! = xs[t / 4] := by rw [getElem!_pos _ _ (by simpa using hi)]; simp
    rw [h2, h4, getElem!_pos _ _ (by rw [hc]; exact hj)]
theorem row_owns4 {w : World} {base g cap n m : Nat} {e : TypeId} {os : Array Obj} {cur : Array Value} {ts : List Value} (hl : ts.length = m * 4) (hbase : base ≤ g) (hb : w.heap[g]? = some (.cells cur e (0, 0)))
    (h1 : m ≤ cap) (h2 : cap ≤ maxLen) (h3 : cur.size = cap * 4) :
    (grow (putRow id (Sort.ahead w n) g 0 ts.toArray) os).ownsRow base e 4 (.slice (some ⟨g, 0, none⟩) m cap) m ts :=
  ⟨hl, .inr ⟨g, cap, _, rfl, hbase, row_heap _ hb, h1, h2, by simp [putCells, h3], by
    rw [← hl]
    have := row_take (f := id) cur ts (by omega)
    rwa [List.map_id] at this⟩⟩

set_option maxHeartbeats 1600000 in
/-- slices.SortFunc over dependencies of the call's own whose lists lie elsewhere. -/
theorem sortI_any (xs : List I6) (v : Value) (B : Nat) (w : World) (hown : w.ownsRow B 39 4 v xs.length (xs.flatMap cI)) (hl : xs.length ≤ 1000000)
    (hrd : ∀ x ∈ xs, RdE encI w x.1 x.2.2.2.2.1 ∧ RdE encI w x.2.1 x.2.2.2.2.2) (hfar : ∀ x ∈ xs, FarV x.1 v.ownBlock ∧ FarV x.2.1 v.ownBlock) :
    Calls Tryz.prog 40 #[v, .func (.func 41) #[] #[]] w fun e w' =>
      e = .returned (.tuple #[]) ∧ ∃ ys : List I6, ys.Perm xs ∧ w'.ownsRow B 39 4 v xs.length (ys.flatMap cI) ∧ w.grownBy w' v.ownBlock := by
  rcases hown.2 with ⟨rfl, hn⟩ | ⟨g, cap, cur, rfl, hB, hg, hnc, hcm, hcs, htake⟩
  · have hx : xs = [] := List.eq_nil_of_length_eq_zero hn
    subst hx
    refine (AnyF.slices_SortFunc_none Tryz.sortI none 0 _ w).mono fun e w' ⟨he, hw⟩ => ?_
    subst hw
    exact ⟨he, [], List.Perm.refl _, hown, World.grownBy.refl _ _⟩
  · let P : I6 → Prop := fun x => (RdE encI w x.1 x.2.2.2.2.1 ∧ RdE encI w x.2.1 x.2.2.2.2.2) ∧ (FarV x.1 (some g) ∧ FarV x.2.1 (some g))
    let α := { x : I6 // P x }
    have hP : ∀ x ∈ xs, P x := fun x hx => ⟨hrd x hx, hfar x hx⟩
    have fn : FarV (.slice none 0 0) (some g) := fun a len cap e _ => by cases e
    haveI : Inhabited α := ⟨⟨(.slice none 0 0, .slice none 0 0, 0, 0, [], []), ⟨⟨RdE.nil w 0, RdE.nil w 0⟩, fn, fn⟩⟩⟩
    obtain ⟨zs, hzs⟩ : ∃ zs : List α, zs.map Subtype.val = xs := ⟨xs.attach.map (fun x => ⟨x.1, hP x.1 x.2⟩), by rw [List.map_map]; exact List.attach_map_subtype_val xs⟩
    have hzl : zs.length = xs.length := by rw [← hzs, List.length_map]
    have hatt : zs.flatMap (fun x : α => cI x.1) = xs.flatMap cI := by rw [← hzs, List.flatMap_map]
    have hfl := flat_length cI_cells xs
    have hlt : g < w.heap.size := (Array.getElem?_eq_some_iff.1 hg).1
    have hH : HoldsK (fun x : α => cI x.1) 4 w g 0 zs.toArray := by
      unfold HoldsK
      rw [flatK_cI _ (fun x : α => rfl), hatt]
      exact holds_row (f := id) hg (by rw [hfl, htake, List.map_id])
    have swo : SWO (ltOf (fun x y : α => cmpD x.1.2.2 y.1.2.2)) := {
      irrefl := fun x => swoD.irrefl x.1.2.2
      trans := fun x y z => swoD.trans x.1.2.2 y.1.2.2 z.1.2.2
      ntrans := fun x y z => swoD.ntrans x.1.2.2 y.1.2.2 z.1.2.2 }
    have hgrow : ∀ (m : Nat) (os : Array Obj) (dk : Array α), w.grownBy (sortWorldK (fun x : α => cI x.1) 4 w g 0 m dk os) (some g) := fun m os dk => by
      unfold sortWorldK putRowK
      exact row_grown _
    have hone : ∀ (x : α), ∀ u ∈ cI x.1, u.oneCell' = true := fun x => by
      obtain ⟨a1, a2, h1, -⟩ := x.2.1.1.split
      obtain ⟨b1, b2, h2, -⟩ := x.2.1.2.split
      exact cI_one (by rw [h1]; rfl) (by rw [h2]; rfl)
    have h := AnyQ.slices_SortFunc Tryz.sortI 4 (fun w => by kernel_rfl) (fun w => by kernel_rfl) (fun x : α => cI x.1) (fun x => rfl) hone (fun x y : α => cmpD x.1.2.2 y.1.2.2) swo 41 #[] g 0 cap zs.toArray w
      (enters _ _ _ Tryz.func41 (by kernel_rfl) rfl)
      (fun m os dk hs x y => scmp_any x.1 y.1 _ ⟨RdE.grownI x.2.1.1 (hgrow m os dk) x.2.2.1, RdE.grownI x.2.1.2 (hgrow m os dk) x.2.2.2⟩ ⟨RdE.grownI y.2.1.1 (hgrow m os dk) y.2.2.1, RdE.grownI y.2.1.2 (hgrow m os dk) y.2.2.2⟩) hH hlt (by rw [List.size_toArray, hzl]; omega)
    have hsz0 : zs.toArray.size = xs.length := by rw [List.size_toArray, hzl]
    rw [hsz0] at h
    refine h.mono fun e w' ⟨he, d', n, os, hp, hs, hw⟩ => ?_
    have hsz : d'.size = xs.length := hp.1.trans hsz0
    have hperm : d'.toList.Perm zs := by
      have h1 := hp.2.2
      have e1 : d'.extract 0 xs.length = d' := by rw [← hsz]; exact Array.extract_size
      have e2 : zs.toArray.extract 0 xs.length = zs.toArray := by rw [← hsz0]; exact Array.extract_size
      rw [e1, e2] at h1
      simpa using h1
    refine ⟨he, d'.toList.map Subtype.val, ?_, ?_, ?_⟩
    · have := hperm.map Subtype.val
      rwa [hzs] at this
    · rw [hw]
      unfold sortWorldK putRowK
      have : flatK (fun x : α => cI x.1) 4 d' = ((d'.toList.map Subtype.val).flatMap cI).toArray := by
        have := flatK_cI (fun x : α => cI x.1) (fun x => rfl) d'.toList
        rw [List.flatMap_map, ← this]
      rw [this]
      exact row_owns4 (by rw [flat_length cI_cells, List.length_map, Array.length_toList, hsz]) hB hg hnc hcm hcs
    · rw [hw]
      exact hgrow n os d'

end Go.Proofs.YtgahpgmagfngfaaGreatDoor


/- The walk of indmine.search and All. -/
namespace Go.Proofs.YtgahpgmagfngfaaGreatDoor
open Go.RowKit
set_option linter.unusedVariables false

/-- Dependencies in a row of the call's own, each list elsewhere. -/
structure OutI (w : World) (B : Nat) (v : Value) (xs : List I6) : Prop where
  own : w.ownsRow B 39 4 v xs.length (xs.flatMap cI)
  rd : ∀ x ∈ xs, RdE encI w x.1 x.2.2.2.2.1 ∧ RdE encI w x.2.1 x.2.2.2.2.2
  far : ∀ x ∈ xs, FarV x.1 v.ownBlock ∧ FarV x.2.1 v.ownBlock
theorem OutI.nil (w : World) (B : Nat) : OutI w B (.slice none 0 0) [] := ⟨World.ownsRow_nil _ _ _ _, fun x hx => absurd hx (by simp), fun x hx => absurd hx (by simp)⟩
theorem OutI.below {w w' : World} {B : Nat} {v : Value} {xs : List I6} (h : OutI w B v xs) (hb : Below w.heap.size w w') : OutI w' B v xs :=
  ⟨own_below h.own hb, fun x hx => ⟨(h.rd x hx).1.below hb, (h.rd x hx).2.below hb⟩, h.far⟩
theorem OutI.rdI {w : World} {B : Nat} {v : Value} {xs : List I6} (h : OutI w B v xs) (hl : xs.length ≤ 1000000) : RdI w v xs := ⟨RdC.of_owns cI_length h.own (by omega), h.rd⟩
theorem farV_zero (o : Option Nat) : FarV (.slice none 0 0) o := fun a len cap e _ => by cases e
theorem farV_no (v : Value) : FarV v none := fun a len cap _ _ e => by cases e
theorem farV_blk {α : Type} {f : α → Value} {w : World} {v : Value} {xs : List α} (h : RdE f w v xs) {j : Nat} (hj : w.heap.size ≤ j) : FarV v (some j) := by
  obtain ⟨ao, cap, rfl, h3, h4, h5⟩ := h
  intro a len cap' hv hp
  cases hv
  obtain ⟨b, off, e2, hlt, _⟩ := h5 hp
  cases e2
  intro e3
  have : j = b := Option.some.inj e3
  omega
/-- 'out = append(out, found...)'. -/
theorem OutI.app {w w' : World} {B B' : Nat} {v u v' : Value} {xs ys : List I6} (h : OutI w B v xs) (hy : OutI w B' u ys) (hfar : ∀ y ∈ ys, FarV y.1 v.ownBlock ∧ FarV y.2.1 v.ownBlock)
    (ho : w'.ownsRow B 39 4 v' (xs ++ ys).length ((xs ++ ys).flatMap cI)) (hg : w.grownBy w' v.ownBlock) (hl : v'.ownBlock = v.ownBlock ∨ v'.ownBlock = some w.heap.size) : OutI w' B v' (xs ++ ys) := by
  have key : ∀ x ∈ xs ++ ys, (RdE encI w x.1 x.2.2.2.2.1 ∧ RdE encI w x.2.1 x.2.2.2.2.2) ∧ FarV x.1 v.ownBlock ∧ FarV x.2.1 v.ownBlock := fun x hx => by
    rcases List.mem_append.1 hx with hx | hx
    · exact ⟨h.rd x hx, h.far x hx⟩
    · exact ⟨hy.rd x hx, hfar x hx⟩
  refine ⟨ho, fun x hx => ?_, fun x hx => ?_⟩
  · obtain ⟨⟨h1, h2⟩, h3, h4⟩ := key x hx
    exact ⟨RdE.grownI h1 hg h3, RdE.grownI h2 hg h4⟩
  · obtain ⟨⟨h1, h2⟩, h3, h4⟩ := key x hx
    rcases hl with e | e
    · rw [e]; exact ⟨h3, h4⟩
    · rw [e]; exact ⟨farV_blk h1 (Nat.le_refl _), farV_blk h2 (Nat.le_refl _)⟩
theorem wpList_appendI {P : Program} {w : World} {ops : Array Oper} {rest : List Oper} {o : Oper} {a : Act} {Q : Exit → Act → World → Prop} (hgd : o.guard = none) (s x : Operand) (t : TypeId)
    (ho : o.op = .call { callee := .builtin .append, args := #[s, x], argTypes := #[t, t] })
    (B : Nat) (e : TypeId) (z : Value) (ht : P.underlying t = some (.slice e)) (hinfo : (P.info? e).map (fun i => (i.zero, i.size, i.bytes)) = some (some z, 4, 80)) (hz : z.cells.size = 4)
    (v : Value) (xs : List I6) (hs : a.eval s = v) (hown : w.ownsRow B e 4 v xs.length (xs.flatMap cI))
    (B' : Nat) (u : Value) (ys : List I6) (hx : a.eval x = u) (hu : w.ownsRow B' e 4 u ys.length (ys.flatMap cI)) (hone : ∀ y ∈ ys, ∀ c ∈ cI y, c.oneCell' = true) (hl : xs.length + ys.length ≤ 1000000) (hB : B ≤ w.heap.size)
    (h : ∀ v' w', w'.ownsRow B e 4 v' (xs ++ ys).length ((xs ++ ys).flatMap cI) → w.grownBy w' v.ownBlock → (v'.ownBlock = v.ownBlock ∨ v'.ownBlock = some w.heap.size) → wpList P ops Q rest (a.put o.dst v') w') : wpList P ops Q (o :: rest) a w := by
  obtain ⟨i, hi, hz0, hz1, hz2⟩ := info_parts hinfo
  rcases hu.2 with ⟨h1, h2⟩ | ⟨g, cap, cur, hv, -⟩
  · have hys : ys = [] := List.eq_nil_of_length_eq_zero h2
    subst hys
    refine wpList_append_own_none hgd s x t ho B e i 4 ht hi v xs.length (xs.flatMap cI) hs hown (by rw [hx, h1]) (h v w (by simpa using hown) (World.grownBy.refl w _) (.inl rfl))
  · subst hv
    have hfl := flat_length cI_length ys
    refine wpList_append_own_at w hgd s x t ho B e i z 4 80 ht hi hz0 hz1 hz2 hz (by decide) v xs.length (xs.flatMap cI) hs hown ⟨g, 0, none⟩ ys.length cap (ys.flatMap cI) hx hfl ?_ ?_ ?_ ?_ hB ?_
    · intro j y hj
      have hj2 := (List.getElem?_eq_some_iff.1 hj).1
      have e : (⟨g, 0, none⟩ : Addr).add j = ⟨g, j, none⟩ := by unfold Addr.add; simp; omega
      rw [e]
      exact (hu.cellAt j (by rw [hfl] at hj2; exact hj2)).trans hj
    · intro y hy
      obtain ⟨z, hz, hc⟩ := List.mem_flatMap.1 hy
      exact hone z hz y hc
    · unfold maxLen; omega
    · omega
    · intro v' w' q1 q2 _ q4
      exact h v' w' (by simpa using q1) q2 q4
theorem OutI.one {w : World} {B : Nat} {v : Value} {xs : List I6} (h : OutI w B v xs) : ∀ y ∈ xs, ∀ c ∈ cI y, c.oneCell' = true := fun y hy => by
  obtain ⟨a1, a2, h1, -⟩ := (h.rd y hy).1.split
  obtain ⟨b1, b2, h2, -⟩ := (h.rd y hy).2.split
  exact cI_one (by rw [h1]; rfl) (by rw [h2]; rfl)
/-- The same dependencies, in another order. -/
theorem OutI.perm {w w' : World} {B : Nat} {v : Value} {xs ys : List I6} (h : OutI w B v xs) (hp : ys.Perm xs) (ho : w'.ownsRow B 39 4 v xs.length (ys.flatMap cI)) (hg : w.grownBy w' v.ownBlock) : OutI w' B v ys :=
  ⟨by rw [hp.length_eq]; exact ho, fun x hx => ⟨RdE.grownI (h.rd x (hp.mem_iff.1 hx)).1 hg (h.far x (hp.mem_iff.1 hx)).1, RdE.grownI (h.rd x (hp.mem_iff.1 hx)).2 hg (h.far x (hp.mem_iff.1 hx)).2⟩, fun x hx => h.far x (hp.mem_iff.1 hx)⟩
theorem foundD_eq (ds : List D3) {i k : Nat} {d1 d2 : D3} (h1 : ds[i]? = some d1) (h2 : ds[k]? = some d2) : foundD (nD ds) (rD ds) i k = (extL (hldB d1.2.2.2.2 d2.2.2.2.2) d1.2.2.2.1.length d2.2.2.2.1.length (i == k) 3 [] []).map (mkDN i k) := by
  unfold foundD mkDN
  rw [nD_at h1, nD_at h2, rD_at h1, rD_at h2]
/-- All that is found. -/
def allD (ds : List D3) : List DN := (List.range ds.length).flatMap fun i => (List.range ds.length).flatMap (foundD (nD ds) (rD ds) i)
/-- Behind a part of the search. -/
def SrS (w0 : World) (B : Nat) (ds : List D3) (v : Value) (add : List DN) (n : Nat) (wr : World) : Prop := ∃ xs : List I6, OutI wr B v xs ∧ (xs.map (fun x => x.2.2)).Perm add ∧ xs.length ≤ n ∧ Below w0.heap.size w0 wr
def SrQ (w : World) (ds : List D3) (e : Ending) (w' : World) : Prop := ∃ (v : Value) (xs : List I6), e = .returned (.tuple #[v, .int .i64 0]) ∧ RdI w' v xs ∧ (xs.map (fun x => x.2.2)).Perm (allD ds) ∧ xs.length ≤ 297 ∧ Below w.heap.size w w'

set_option maxHeartbeats 6400000 in
set_option maxRecDepth 100000 in
theorem isearch_any (ds : List D3) (v : Value) (w : World) (hv : RdDb w v ds) (hg : GoodD ds) :
    Calls Tryz.prog 18 #[.agg #[v], .int .i64 3] w (SrQ w ds) := by
  have hb0 := below_alloc w (.cells #[v] 29)
  have BX := hid (boxD w v)
  obtain ⟨w0, hw0⟩ : ∃ w0 : World, w.alloc (.cells #[v] 29) = w0 := ⟨_, rfl⟩
  rw [hw0] at hb0 BX
  have B0 := hid hb0
  have W0 := hid hw0
  have hs0 := hb0.size
  have V0 := hid (hv.below hb0)
  have HG := hid hg
  obtain ⟨ao, cap, rfl, -, hc⟩ := V0.out.split
  have HC := hid hc
  have l3 : (ds.length : Int) ≤ 3 := by have := hg.few; omega
  have H3 := hid (show ds.length ≤ 3 from hg.few)
  have c0 := BX.out w0 (Below.refl _ _)
  clear hv hb0 hw0 hc hg
  go_enter Tryz.func18, Tryz.ntmps18
  go_wp2_with fail
  rw [W0.out]
  go_wp2_with fail
  go_loopw [6, 15] (fun o x wr => ∃ i : Nat, i ≤ ds.length ∧ x = .int .i64 i ∧ Hid (SrS w0 w0.heap.size ds o (((List.range ds.length).take i).flatMap fun i => (List.range ds.length).flatMap (foundD (nD ds) (rD ds) i)) (99 * i) wr)) (fun _ x _ => ds.length - (intOf x).toNat)
  case atStart => exact ⟨0, Nat.zero_le _, rfl, hid ⟨[], OutI.nil _ _, by simp, by simp, Below.refl _ _⟩⟩
  case round =>
    obtain ⟨wo, rfl⟩ : ∃ wo : World, wo = wr := ⟨_, rfl⟩
    obtain ⟨i, hi, rfl, HS⟩ := hrel
    have i0 : (0 : Int) ≤ (i : Int) := by omega
    have BW := hid (show Below w0.heap.size w0 wo from HS.out.choose_spec.2.2.2)
    by_cases hlt : i < ds.length
    · have hltI : (i : Int) < (ds.length : Int) := by omega
      obtain ⟨d1, hd1⟩ := get_some hlt
      obtain ⟨⟨b, off, rfl, hce⟩, hT⟩ := HC.out i _ hd1
      obtain ⟨e0, e1, e2⟩ := hce wo BW.out
      have T1 := hid (hT w0 (Below.refl _ _))
      have D1 := hid hd1
      obtain ⟨av1, rv1, nm1, ats1, rs1⟩ := d1
      obtain ⟨ao1, acap1, ha1, -⟩ := T1.out.1.split
      obtain ⟨ro1, rcap1, hr1, -⟩ := RdR.split T1.out.2
      simp only at ha1 hr1 e0 e1 e2
      subst ha1 hr1
      have hba := below_alloc wo (.cells #[.string nm1, .slice ao1 ats1.length acap1, .slice ro1 rs1.length rcap1] 48)
      have CF := hid (fun (W : World) h => cells3 (w := wo) (a := .string nm1) (b := .slice ao1 ats1.length acap1) (c := .slice ro1 rs1.length rcap1) (t := 48) W h)
      obtain ⟨w1, hw1⟩ : ∃ w1 : World, wo.alloc (.cells #[.string nm1, .slice ao1 ats1.length acap1, .slice ro1 rs1.length rcap1] 48) = w1 := ⟨_, rfl⟩
      rw [hw1] at hba CF
      have W1 := hid hw1
      have S1 := hid (show SrS w0 w0.heap.size ds u6 (((List.range ds.length).take i).flatMap (fun i => (List.range ds.length).flatMap (foundD (nD ds) (rD ds) i)) ++ ((List.range ds.length).take 0).flatMap (foundD (nD ds) (rD ds) i)) (99 * i + 33 * 0) w1 from by
        obtain ⟨xs, h1, h2, h3, h4⟩ := HS.out
        exact ⟨xs, h1.below hba, by simpa using h2, by omega, h4.trans (hba.mono h4.size)⟩)
      have K1 := hid (show wo.heap.size < w1.heap.size ∧ u6.ownBlock ≠ some wo.heap.size from ⟨by rw [← hw1]; simp, fun e => by
        obtain ⟨xs, h1, -⟩ := HS.out
        have := (h1.own.lt _ e).2
        omega⟩)
      have B1 := hid (BW.out.trans (hba.mono BW.out.size))
      obtain ⟨bf, hbf⟩ : ∃ bf, wo.heap.size = bf := ⟨_, rfl⟩
      have HBF := hid hbf
      rw [hbf] at CF K1
      have d0 := BX.out wo BW.out
      have NXO := hid (flat_take_next (List.range ds.length) (fun i => (List.range ds.length).flatMap (foundD (nD ds) (rD ds) i)) (range_at' hlt))
      have LT1 := hid (show w0.heap.size ≤ w1.heap.size from B1.out.size)
      clear hd1 hce hT hw1 hba hbf hi HS c0
      go_upto_region 5 with fail
      rw [W1.out, HBF.out]
      have c1 := BX.out w1 B1.out
      obtain ⟨f0, f1, f2⟩ := CF.out w1 (Below.refl _ _)
      clear e0 e1 e2 d0
      go_wp2_with fail
      go_loopw [6, 23] (fun o y wr => ∃ k : Nat, k ≤ ds.length ∧ y = .int .i64 k ∧ Hid (SrS w0 w0.heap.size ds o (((List.range ds.length).take i).flatMap (fun i => (List.range ds.length).flatMap (foundD (nD ds) (rD ds) i)) ++ ((List.range ds.length).take k).flatMap (foundD (nD ds) (rD ds) i)) (99 * i + 33 * k) wr) ∧ Hid (wr.heap[bf]? = w1.heap[bf]? ∧ bf < wr.heap.size ∧ o.ownBlock ≠ some bf)) (fun _ y _ => ds.length - (intOf y).toNat)
      case atStart => exact ⟨0, Nat.zero_le _, rfl, S1, hid ⟨rfl, K1.out⟩⟩
      case round =>
        obtain ⟨wi, rfl⟩ : ∃ wi : World, wi = wr := ⟨_, rfl⟩
        obtain ⟨k, hk, rfl, HT, HK⟩ := hrel
        have k0 : (0 : Int) ≤ (k : Int) := by omega
        obtain ⟨xs, X1, X2, X3, X4⟩ := HT.out
        obtain ⟨oo, oc, hoo⟩ := own_shape X1.own
        subst hoo
        have HX1 := hid X1
        have HX2 := hid X2
        have HX3 := hid X3
        have HX4 := hid X4
        clear X1 X2 X3 X4
        by_cases hlk : k < ds.length
        · have hlkI : (k : Int) < (ds.length : Int) := by omega
          obtain ⟨d2, hd2⟩ := get_some hlk
          obtain ⟨⟨b2, off2, hbe, hce2⟩, hT2⟩ := HC.out k _ hd2
          simp only [Option.some.injEq, Addr.mk.injEq] at hbe
          obtain ⟨rfl, rfl, -⟩ := hbe
          have BWI := hid (show Below w0.heap.size w0 wi from HX4.out)
          obtain ⟨e0, e1, e2⟩ := hce2 wi BWI.out
          have T2 := hid (hT2 w0 (Below.refl _ _))
          have D2 := hid hd2
          obtain ⟨av2, rv2, nm2, ats2, rs2⟩ := d2
          obtain ⟨ao2, acap2, ha2, -⟩ := T2.out.1.split
          obtain ⟨ro2, rcap2, hr2, -⟩ := RdR.split T2.out.2
          simp only at ha2 hr2 e0 e1 e2
          subst ha2 hr2
          have hbt := below_alloc wi (.cells #[.string nm2, .slice ao2 ats2.length acap2, .slice ro2 rs2.length rcap2] 48)
          have CT := hid (fun (W : World) h => cells3 (w := wi) (a := .string nm2) (b := .slice ao2 ats2.length acap2) (c := .slice ro2 rs2.length rcap2) (t := 48) W h)
          obtain ⟨w2, hw2⟩ : ∃ w2 : World, wi.alloc (.cells #[.string nm2, .slice ao2 ats2.length acap2, .slice ro2 rs2.length rcap2] 48) = w2 := ⟨_, rfl⟩
          have hs2 : w2.heap.size = wi.heap.size + 1 := by rw [← hw2]; simp
          rw [hw2] at hbt CT
          have W2 := hid hw2
          have BT := hid hbt
          obtain ⟨bt, hbte⟩ : ∃ bt, wi.heap.size = bt := ⟨_, rfl⟩
          have HBT := hid hbte
          rw [hbte] at CT
          have B2 := hid (BWI.out.trans (hbt.mono BWI.out.size))
          have KW2 := hid (show w2.heap[bf]? = w1.heap[bf]? from (hbt.block bf HK.out.2.1).trans HK.out.1)
          obtain ⟨sm, hsm⟩ : ∃ sm : Bool, (i == k) = sm := ⟨_, rfl⟩
          have HSM := hid hsm
          have smI : ((i : Int) == (k : Int)) = sm := by
            rw [← hsm, Bool.eq_iff_iff, beq_iff_eq, beq_iff_eq]; omega
          have X9 := hid (show xs.length ≤ 297 from by have := HX3.out; have := H3.out; omega)
          obtain ⟨room, hroom⟩ : ∃ room : Nat, 2000 - xs.length = room := ⟨_, rfl⟩
          have HRO := hid hroom
          have roI : (2000 : Int) - (xs.length : Int) = (room : Int) := by have := X9.out; omega
          have xs9 : (xs.length : Int) ≤ 297 := by have := X9.out; omega
          have d0 := BX.out wi BWI.out
          have NXI := hid (flat_take_next (List.range ds.length) (foundD (nD ds) (rD ds) i) (range_at' hlk))
          clear hd2 hce2 hT2 hw2 hbt hbte hs2 hsm hroom
          obtain ⟨obox, hobox⟩ : ∃ o : Obj, (.cells #[.string nm1, .slice ao1 ats1.length acap1, .slice ro1 rs1.length rcap1, .string nm2, .slice ao2 ats2.length acap2, .slice ro2 rs2.length rcap2, .bool sm, .int .i64 3, .slice none 0 0, .int .i64 (room : Int)] 100 : Obj) = o := ⟨_, rfl⟩
          have MI := hid (show Mi (w2.alloc obox) w2.heap.size (Value.slice ao1 ats1.length acap1, Value.slice ro1 rs1.length rcap1, nm1, ats1, rs1) (Value.slice ao2 ats2.length acap2, Value.slice ro2 rs2.length rcap2, nm2, ats2, rs2) sm (.slice none 0 0) room from by
            rw [← hobox]
            exact ⟨by simp, by simp, by simp, by simp, by simp, by simp, by simp, by simp, by simp, by simp, by simp⟩)
          have hbm := below_alloc w2 obox
          obtain ⟨w3, hw3⟩ : ∃ w3 : World, w2.alloc obox = w3 := ⟨_, rfl⟩
          rw [hw3] at MI hbm
          have W3 := hid (show w2.alloc (.cells #[.string nm1, .slice ao1 ats1.length acap1, .slice ro1 rs1.length rcap1, .string nm2, .slice ao2 ats2.length acap2, .slice ro2 rs2.length rcap2, .bool sm, .int .i64 3, .slice none 0 0, .int .i64 (room : Int)] 100) = w3 by rw [hobox, hw3])
          have BM := hid hbm
          obtain ⟨mb, hmb⟩ : ∃ mb, w2.heap.size = mb := ⟨_, rfl⟩
          have HMB := hid hmb
          rw [hmb] at MI
          clear hobox hbm hw3 hmb
          go_upto_region 8 with fail
          rw [W2.out, HBT.out]
          obtain ⟨t0, t1, t2⟩ := CT.out w2 (Below.refl _ _)
          obtain ⟨f0, f1, f2⟩ : w2.cell? ⟨bf, 0, none⟩ = some (.string nm1) ∧ w2.cell? ⟨bf, 1, none⟩ = some (.slice ao1 ats1.length acap1) ∧ w2.cell? ⟨bf, 2, none⟩ = some (.slice ro1 rs1.length rcap1) := by
            obtain ⟨q0, q1, q2⟩ := CF.out w1 (Below.refl _ _)
            exact ⟨(World.cell?_of_block (w := w1) KW2.out).trans q0, (World.cell?_of_block (w := w1) KW2.out).trans q1, (World.cell?_of_block (w := w1) KW2.out).trans q2⟩
          clear e0 e1 e2 d0
          go_wp2_with fail
          rw [W3.out, HMB.out]
          have G1 := HG.out
          have EXT := hid (mext_any mb mb (Value.slice ao1 ats1.length acap1, Value.slice ro1 rs1.length rcap1, nm1, ats1, rs1) (Value.slice ao2 ats2.length acap2, Value.slice ro2 rs2.length rcap2, nm2, ats2, rs2) i k sm room w2
            (T1.out.below B2.out) (T2.out.below B2.out) (G1.ok _ (List.mem_of_getElem? D1.out)) (G1.ok _ (List.mem_of_getElem? D2.out)) (G1.row _ (List.mem_of_getElem? D2.out)) (G1.att _ (List.mem_of_getElem? D1.out)) (G1.att _ (List.mem_of_getElem? D2.out)) (G1.name i _ D1.out) (G1.name k _ D2.out)
            (Nat.le_of_eq HMB.out) (Nat.le_refl _) (by have := HRO.out; omega) 3 [] [] (.slice none 0 0) (.slice none 0 0) w3 (.slice none 0 0) [] BM.out MI.out (Fnd.nil _ _ _) (RdE.nil _ _) (RdE.nil _ _) ⟨farV_zero _, farV_zero _⟩ ⟨farV_zero _, farV_zero _⟩ ⟨rfl, List.Pairwise.nil, by simp, List.nodup_nil, by simp⟩ rfl
            (by
              have := extL_33 (hldB rs1 rs2) (G1.att _ (List.mem_of_getElem? D1.out)) (G1.att _ (List.mem_of_getElem? D2.out)) sm
              have h1 := HRO.out
              have h2 := X9.out
              show 0 + _ ≤ room
              simp only at this ⊢
              omega))
          have FE := hid (foundD_eq ds D1.out D2.out)
          rw [HSM.out] at FE
          rw [← FE.out] at EXT
          have FL := hid (foundD_length HG.out.db i k)
          obtain ⟨fl, hfl⟩ : ∃ fl, foundD (nD ds) (rD ds) i k = fl := ⟨_, rfl⟩
          have HFLE := hid hfl
          rw [hfl] at EXT FL NXI
          clear hfl G1 f0 f1 f2 t0 t1 t2
          refine EXT.out.mono ?_
          rintro e w4 ⟨rfl, fv, ys, M4, N4, E4, R4⟩
          have M4h := hid M4
          have N4h := hid N4
          have E4h := hid (show ys.map (fun x => x.2.2) = fl from by simpa using E4)
          have YL := hid (show ys.length ≤ 33 from by have h1 := congrArg List.length E4h.out; rw [List.length_map] at h1; have := FL.out; omega)
          have OY := hid (show OutI w4 mb fv ys from ⟨N4.own, N4.rd, fun x hx => (N4.far x hx).1⟩)
          have B24 := hid (show Below w2.heap.size w2 w4 from BM.out.trans (R4.to_below (Nat.le_of_eq HMB.out) (fun g hg => by cases hg) BM.out.size))
          obtain ⟨fo, fc, hfo⟩ := own_shape N4.own
          subst hfo
          have ml := hid M4.lt
          have m8 := M4.c8
          have SRT := hid (sortI_any ys (.slice fo ys.length fc) mb w4 OY.out.own (by have := YL.out; omega) OY.out.rd OY.out.far)
          clear M4 N4 E4 R4
          go_wp2_with fail
          refine SRT.out.mono ?_
          rintro e w5 ⟨rfl, zs, hp5, ho5, hg5⟩
          have NE := hid (show some mb ≠ (Value.slice fo ys.length fc).ownBlock from fun e => N4h.out.ne e.symm)
          have m8b := (hg5.cell_far ⟨mb, 8, none⟩ ml.out NE.out).trans m8
          have OZ := hid (OY.out.perm hp5 ho5 hg5)
          have P5 := hid hp5
          have ZL := hid (show zs.length ≤ 33 by rw [hp5.length_eq]; exact YL.out)
          have B25 := hid (show Below w2.heap.size w2 w5 from B24.out.grown hg5 B24.out.size (fun g hg => by have := (OY.out.own.lt g hg).1; have := HMB.out; omega))
          have BI5 := hid (show Below wi.heap.size wi w5 from BT.out.trans (B25.out.mono BT.out.size))
          have OX5 := hid (HX1.out.below BI5.out)
          have FZ := hid (show ∀ z ∈ zs, FarV z.1 (Value.slice oo xs.length oc).ownBlock ∧ FarV z.2.1 (Value.slice oo xs.length oc).ownBlock from fun z hz => by
            have hy := P5.out.mem_iff.1 hz
            cases ho : (Value.slice oo xs.length oc).ownBlock with
            | none => exact ⟨farV_no _, farV_no _⟩
            | some j =>
              have h1 := (HX1.out.own.lt j ho).2
              have h2 := BT.out.size
              have h3 := HMB.out
              exact N4h.out.lo z hy j (by omega))
          clear hp5 ho5 hg5 m8
          have OZ5 := hid (show w5.ownsRow mb 39 4 (.slice fo ys.length fc) zs.length (zs.flatMap cI) from OZ.out.own)
          have S5 := hid (show w0.heap.size ≤ w5.heap.size from Nat.le_trans B2.out.size B25.out.size)
          go_wp2_with (at_builtin; refine wpList_appendI rfl _ _ 33 rfl w0.heap.size 39 (.agg #[.string (ByteArray.mk #[]), .slice none 0 0, .string (ByteArray.mk #[]), .slice none 0 0]) undINDs infoIND rfl (.slice oo xs.length oc) xs rfl OX5.out.own mb (.slice fo ys.length fc) zs rfl OZ5.out OZ.out.one (by have := X9.out; have := ZL.out; omega) S5.out ?_)
          intro v6 w6 ho6 hg6 hv6
          have FIN := hid (show SrS w0 w0.heap.size ds v6 (((List.range ds.length).take i).flatMap (fun i => (List.range ds.length).flatMap (foundD (nD ds) (rD ds) i)) ++ ((List.range ds.length).take (k + 1)).flatMap (foundD (nD ds) (rD ds) i)) (99 * i + 33 * (k + 1)) w6 from by
            refine ⟨xs ++ zs, OutI.app OX5.out OZ.out FZ.out (by simpa using ho6) hg6 hv6, ?_, ?_, ?_⟩
            · rw [NXI.out, List.map_append, ← List.append_assoc]
              refine HX2.out.append ?_
              have := P5.out.map (fun x => x.2.2)
              rw [E4h.out] at this
              exact this
            · rw [List.length_append]; have := HX3.out; have := ZL.out; omega
            · exact Below.grown (BWI.out.trans (BI5.out.mono BWI.out.size)) hg6 S5.out (fun g hg => (OX5.out.own.lt g hg).1))
          have KIN := hid (show w6.heap[bf]? = w1.heap[bf]? ∧ bf < w6.heap.size ∧ v6.ownBlock ≠ some bf from by
            have hb5 : bf < w5.heap.size := Nat.lt_of_lt_of_le HK.out.2.1 BI5.out.size
            refine ⟨(hg6.block bf hb5 (fun e => HK.out.2.2 e.symm)).trans ((BI5.out.block bf HK.out.2.1).trans HK.out.1), Nat.lt_of_lt_of_le hb5 hg6.size, ?_⟩
            rcases hv6 with e | e
            · rw [e]; exact HK.out.2.2
            · rw [e]; intro e2; have : w5.heap.size = bf := Option.some.inj e2; omega)
          clear ho6 hg6 hv6
          go_wp2_with fail
          go_roundw
          case rel => exact ⟨k + 1, by omega, by go_num, FIN, KIN⟩
          case measure => simp [intOf]; omega
        · have hlkI : ¬ (k : Int) < (ds.length : Int) := by omega
          have hke : k = ds.length := by omega
          have FIN := hid (show SrS w0 w0.heap.size ds (.slice oo xs.length oc) (((List.range ds.length).take (i + 1)).flatMap (fun i => (List.range ds.length).flatMap (foundD (nD ds) (rD ds) i))) (99 * (i + 1)) wi from by
            rw [NXO.out]
            have h1 := HX2.out
            rw [List.take_of_length_le (show (List.range ds.length).length ≤ k by rw [List.length_range]; omega)] at h1
            exact ⟨xs, HX1.out, h1, by have := HX3.out; have := H3.out; omega, HX4.out⟩)
          clear hke
          go_wp2_with fail
          go_roundw
          case rel => exact ⟨i + 1, by omega, by go_num, FIN⟩
          case measure => simp [intOf]; omega
    · have hltI : ¬ (i : Int) < (ds.length : Int) := by omega
      obtain ⟨xs, X1, X2, X3, X4⟩ := HS.out
      have HX3 := hid X3
      rw [List.take_of_length_le (show (List.range ds.length).length ≤ i by rw [List.length_range]; omega)] at X2
      have hie : i = ds.length := by omega
      have FIN := hid (show RdI wo u6 xs ∧ (xs.map (fun x => x.2.2)).Perm (allD ds) ∧ xs.length ≤ 297 ∧ Below w.heap.size w wo from ⟨X1.rdI (by have := H3.out; omega), X2, by have := H3.out; omega, B0.out.trans (X4.mono hs0)⟩)
      obtain ⟨oo, oc, hoo⟩ := own_shape X1.own
      subst hoo
      clear X1 X2 X3 X4 HX3 hie
      go_wp2_with fail
      go_ret2
      exact ⟨_, xs, rfl, FIN.out⟩

set_option maxHeartbeats 1600000 in
theorem iall_any (ds : List D3) (v : Value) (w : World) (hv : RdDb w v ds) (hg : GoodD ds) :
    Calls Tryz.prog 6 #[.agg #[v], .int .i64 3] w (SrQ w ds) := by
  have hb0 := below_alloc w (.cells #[v] 29)
  have BX := hid (boxD w v)
  obtain ⟨w0, hw0⟩ : ∃ w0 : World, w.alloc (.cells #[v] 29) = w0 := ⟨_, rfl⟩
  rw [hw0] at hb0 BX
  have B0 := hid hb0
  have W0 := hid hw0
  have hs0 := hb0.size
  have V0 := hid (hv.below hb0)
  have CK := hid (ichecked_any ds v w0 V0.out hg)
  have SE := hid (fun (W : World) (h : Below w0.heap.size w0 W) => isearch_any ds v W (V0.out.below h) hg)
  obtain ⟨ao, cap, rfl, -⟩ := V0.out.split
  have c0 := BX.out w0 (Below.refl _ _)
  clear hv hb0 hw0 hg
  go_enter Tryz.func6, Tryz.ntmps6
  go_wp2_with fail
  rw [W0.out]
  go_wp2_with fail
  refine CK.out.mono ?_
  rintro e w1 ⟨rfl, hb1⟩
  have D1 := hid hb1
  have d0 := BX.out w1 hb1
  clear c0 hb1
  go_wp2_with fail
  refine (SE.out w1 D1.out).mono ?_
  rintro e w2 ⟨v2, xs, rfl, h1, h2, h3, hb2⟩
  have FIN := hid (show RdI w2 v2 xs ∧ (xs.map (fun x => x.2.2)).Perm (allD ds) ∧ xs.length ≤ 297 ∧ Below w.heap.size w w2 from ⟨h1, h2, h3, B0.out.trans ((D1.out.trans (hb2.mono D1.out.size)).mono hs0)⟩)
  clear h1 h2 h3 hb2 d0
  go_wp2_with fail
  go_ret2
  exact ⟨_, xs, rfl, FIN.out⟩

end Go.Proofs.YtgahpgmagfngfaaGreatDoor

