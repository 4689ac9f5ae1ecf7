/- Chapter 27's contracts in the words of the laws; the comparisons of lists of counts and of pairs; few. -/
import Derived.Test.YtkehelplmipenaaTab19
import Derived.Test.YtkehelplmipenaaTab21
import Derived.Laws.StructEq
namespace Go.Proofs.Ytkehelplmipenaa
open Go.RowKit Go.Shelf Go.Lib

def setsL (t : T3) : List C2 := if tabE2 t = 0 then cntL (pairsS t.2.2) else []
theorem cntL_length (G : List S) : (cntL G).length ≤ G.length := by unfold cntL; rw [List.length_map]; exact ordS_length G
theorem pairs_bound {t : T3} (h : tabE2 t = 0) : (pairsS t.2.2).length ≤ 40000 := Nat.le_trans (pairsS_length _) (Nat.mul_le_mul (tabE2_ok h).2.1 (tabE2_ok h).2.1)
theorem setsL_length (t : T3) : (setsL t).length ≤ 40000 := by
  unfold setsL
  split
  · rename_i h; exact Nat.le_trans (cntL_length _) (pairs_bound h)
  · simp
theorem asetsR (t : T3) (av rv : Value) (w : World) (ht : RdT w av rv t) :
    Calls Try.prog 13 #[.agg #[.string t.1, av, rv]] w fun e w' => ∃ v', e = .returned (.tuple #[v', .int .i64 (tabE2 t)]) ∧ RdCt w' v' (setsL t) ∧ Below w.heap.size w w' := by
  have hl := setsL_length t
  unfold setsL at hl ⊢
  by_cases h : tabE2 t = 0
  · rw [if_pos h] at hl ⊢
    refine (asets_ok t av rv w ht h).mono fun e w' ⟨v', he, ho, hb⟩ => ⟨v', by rw [he, h], RdC.of_owns cC_length ho (by omega), hb⟩
  · rw [if_neg h]
    exact (asets_err t av rv w ht h).mono fun e w' ⟨he, hb⟩ => ⟨_, he, RdC.nil _ _, hb⟩
theorem rsetsR (t : T3) (av rv : Value) (w : World) (ht : RdT w av rv t) :
    Calls Try.prog 14 #[.agg #[.string t.1, av, rv]] w fun e w' => ∃ v', e = .returned (.tuple #[v', .int .i64 (tabE2 t)]) ∧ RdCt w' v' (setsL t) ∧ Below w.heap.size w w' := by
  have hl := setsL_length t
  unfold setsL at hl ⊢
  by_cases h : tabE2 t = 0
  · rw [if_pos h] at hl ⊢
    refine (rsets_ok t av rv w ht h).mono fun e w' ⟨v', he, ho, hb⟩ => ⟨v', by rw [he, h], RdC.of_owns cC_length ho (by omega), hb⟩
  · rw [if_neg h]
    exact (rsets_err t av rv w ht h).mono fun e w' ⟨he, hb⟩ => ⟨_, he, RdC.nil _ _, hb⟩
def maxL (t : T3) (a : Int) : List S := if arityE t a = 0 then keepS upR (withoutS (pairsS t.2.2) a.toNat) else []
def difL (t : T3) (a : Int) : List S := if arityE t a = 0 then keepS downR (diffL t.2.1.length a.toNat (pairsS t.2.2)) else []
theorem maxL_length (t : T3) (a : Int) : (maxL t a).length ≤ 40000 := by
  unfold maxL
  split
  · rename_i h; exact Nat.le_trans (keepS_length _ _) (Nat.le_trans (withoutS_length _ _) (pairs_bound (arityE_ok h).1))
  · simp
theorem difL_length (t : T3) (a : Int) : (difL t a).length ≤ 40000 := by
  unfold difL
  split
  · rename_i h
    refine Nat.le_trans (keepS_length _ _) ?_
    unfold diffL
    rw [List.length_map]
    exact Nat.le_trans (withoutS_length _ _) (pairs_bound (arityE_ok h).1)
  · simp
theorem amaxR (t : T3) (av rv : Value) (a : Int) (w : World) (ht : RdT w av rv t) :
    Calls Try.prog 16 #[.agg #[.string t.1, av, rv], .int .i64 a] w fun e w' => ∃ v', e = .returned (.tuple #[v', .int .i64 (arityE t a)]) ∧ RdE enc w' v' (maxL t a) ∧ Below w.heap.size w w' := by
  have hl := maxL_length t a
  unfold maxL at hl ⊢
  by_cases h : arityE t a = 0
  · rw [if_pos h] at hl ⊢
    obtain ⟨h0, k, rfl, hk⟩ := arityE_ok h
    rw [Int.toNat_natCast] at hl ⊢
    exact (amax_ok t av rv k w ht h0 hk).mono fun e w' ⟨v', he, ho, hb⟩ => ⟨v', by rw [he, h], RdE.of_owns ho (by omega), hb⟩
  · rw [if_neg h]
    exact (amax_err t av rv a w ht h).mono fun e w' ⟨he, hb⟩ => ⟨_, he, RdE.nil _ _, hb⟩
theorem rmaxR (t : T3) (av rv : Value) (a : Int) (w : World) (ht : RdT w av rv t) :
    Calls Try.prog 17 #[.agg #[.string t.1, av, rv], .int .i64 a] w fun e w' => ∃ v', e = .returned (.tuple #[v', .int .i64 (arityE t a)]) ∧ RdE enc w' v' (maxL t a) ∧ Below w.heap.size w w' := by
  have hl := maxL_length t a
  unfold maxL at hl ⊢
  by_cases h : arityE t a = 0
  · rw [if_pos h] at hl ⊢
    obtain ⟨h0, k, rfl, hk⟩ := arityE_ok h
    rw [Int.toNat_natCast] at hl ⊢
    exact (rmax_ok t av rv k w ht h0 hk).mono fun e w' ⟨v', he, ho, hb⟩ => ⟨v', by rw [he, h], RdE.of_owns ho (by omega), hb⟩
  · rw [if_neg h]
    exact (rmax_err t av rv a w ht h).mono fun e w' ⟨he, hb⟩ => ⟨_, he, RdE.nil _ _, hb⟩
theorem adiffR (t : T3) (av rv : Value) (a : Int) (w : World) (ht : RdT w av rv t) :
    Calls Try.prog 18 #[.agg #[.string t.1, av, rv], .int .i64 a] w fun e w' => ∃ v', e = .returned (.tuple #[v', .int .i64 (arityE t a)]) ∧ RdE enc w' v' (difL t a) ∧ Below w.heap.size w w' := by
  have hl := difL_length t a
  unfold difL at hl ⊢
  by_cases h : arityE t a = 0
  · rw [if_pos h] at hl ⊢
    obtain ⟨h0, k, rfl, hk⟩ := arityE_ok h
    rw [Int.toNat_natCast] at hl ⊢
    exact (adiff_ok t av rv k w ht h0 hk).mono fun e w' ⟨v', he, ho, hb⟩ => ⟨v', by rw [he, h], RdE.of_owns ho (by omega), hb⟩
  · rw [if_neg h]
    exact (adiff_err t av rv a w ht h).mono fun e w' ⟨he, hb⟩ => ⟨_, he, RdE.nil _ _, hb⟩
theorem rdiffR (t : T3) (av rv : Value) (a : Int) (w : World) (ht : RdT w av rv t) :
    Calls Try.prog 19 #[.agg #[.string t.1, av, rv], .int .i64 a] w fun e w' => ∃ v', e = .returned (.tuple #[v', .int .i64 (arityE t a)]) ∧ RdE enc w' v' (difL t a) ∧ Below w.heap.size w w' := by
  have hl := difL_length t a
  unfold difL at hl ⊢
  by_cases h : arityE t a = 0
  · rw [if_pos h] at hl ⊢
    obtain ⟨h0, k, rfl, hk⟩ := arityE_ok h
    rw [Int.toNat_natCast] at hl ⊢
    exact (rdiff_ok t av rv k w ht h0 hk).mono fun e w' ⟨v', he, ho, hb⟩ => ⟨v', by rw [he, h], RdE.of_owns ho (by omega), hb⟩
  · rw [if_neg h]
    exact (rdiff_err t av rv a w ht h).mono fun e w' ⟨he, hb⟩ => ⟨_, he, RdE.nil _ _, hb⟩
theorem awitR (t : T3) (av rv : Value) (s : S) (w : World) (ht : RdT w av rv t) :
    Calls Try.prog 21 #[.agg #[.string t.1, av, rv], enc s] w fun e w' => e = .returned (witV (witE t s)) ∧ Below w.heap.size w w' := by
  unfold witE
  by_cases h : tabE2 t = 0
  · rw [if_pos h]; exact awit_ok t av rv s w ht h
  · rw [if_neg h]; exact awit_err t av rv s w ht h

theorem run_neqC (x y : C2) (w : World) : (binOp .neq 35 (.agg #[.int .u32 (iv x.1), .int .i64 x.2]) (.agg #[.int .u32 (iv y.1), .int .i64 y.2])).run Try.prog w = .ok (.bool (!decide (x = y))) w := by
  have u3 := Try.underlying33
  have a3 := Try.isAgg33
  have z3 := Try.sizeOf33
  have u2 := Try.underlying2
  have a2 := Try.isAgg2
  have z2 := Try.sizeOf2
  have hS : Try.prog.underlying 35 = some (.struct (Try.prog.fieldsOf 35)) := by kernel_rfl
  have hp : Try.prog.stoodInHeld 35 = false := by kernel_rfl
  rw [run_neq_struct, show (10000 : Nat) = 9999 + 1 from rfl, run_equalIn_agg w 9999 35 _ _ hS hp]
  simp only [Program.fieldsOf, Try.underlying35]
  go_simp
  obtain ⟨x1, x2⟩ := x
  obtain ⟨y1, y2⟩ := y
  by_cases h1 : x1 = y1 <;> by_cases h2 : x2 = y2 <;> simp [h1, h2]
theorem run_eqlP (x y : Int × Int) (b c : Bool) (w : World) : (binOp .eql 45 (.agg #[.int .i64 x.1, .int .i64 x.2, .bool b]) (.agg #[.int .i64 y.1, .int .i64 y.2, .bool c])).run Try.prog w = .ok (.bool (decide (x = y) && (b == c))) w := by
  have u4 := Try.underlying4
  have a4 := Try.isAgg4
  have z4 := Try.sizeOf4
  have u2 := Try.underlying2
  have a2 := Try.isAgg2
  have z2 := Try.sizeOf2
  have hS : Try.prog.underlying 45 = some (.struct (Try.prog.fieldsOf 45)) := by kernel_rfl
  have hp : Try.prog.stoodInHeld 45 = false := by kernel_rfl
  rw [run_eql_struct, show (10000 : Nat) = 9999 + 1 from rfl, run_equalIn_agg w 9999 45 _ _ hS hp]
  simp only [Program.fieldsOf, Try.underlying45]
  go_simp
  obtain ⟨x1, x2⟩ := x
  obtain ⟨y1, y2⟩ := y
  by_cases h1 : x1 = y1 <;> by_cases h2 : x2 = y2 <;> cases b <;> cases c <;> simp [h1, h2]

theorem RdCt.split {w : World} {v : Value} {xs : List C2} (h : RdCt w v xs) : ∃ ao cap, v = .slice ao xs.length cap ∧ xs.length ≤ 35184372088832 ∧
    ∀ (k : Nat) (x : C2), xs[k]? = some x → ∃ b off, ao = some ⟨b, off, none⟩ ∧ ∀ wr, Below w.heap.size w wr → wr.cell? ⟨b, off + k * 2, none⟩ = some (.int .u32 (iv x.1)) ∧ wr.cell? ⟨b, off + k * 2 + 1, none⟩ = some (.int .i64 x.2) := by
  obtain ⟨ao, cap, rfl, -, h2, h3⟩ := h
  refine ⟨ao, cap, rfl, h2, fun k f hf => ?_⟩
  obtain ⟨b, off, rfl, hb, hc⟩ := h3 (by have := (List.getElem?_eq_some_iff.1 hf).1; omega)
  exact ⟨b, off, rfl, fun wr hn => ⟨(hn.cell (p := ⟨b, off + k * 2, none⟩) hb).trans (hc _ _ (flat_at cC_length xs k f 0 _ hf rfl)), (hn.cell (p := ⟨b, off + k * 2 + 1, none⟩) hb).trans (hc _ _ (flat_at cC_length xs k f 1 _ hf rfl))⟩⟩
/-- Same over counts, of a list with itself. -/
theorem csame_any (xs : List C2) (v u : Value) (w : World) (hv : RdCt w v xs) (hu : RdCt w u xs) :
    Calls Try.prog 15 #[v, u] w fun e w' => e = .returned (.bool true) ∧ Below w.heap.size w w' := by
  obtain ⟨ao, cap, rfl, hl, hc⟩ := hv.split
  obtain ⟨bo, cbp, rfl, -, hd⟩ := hu.split
  have HC := hid hc
  have HD := hid hd
  have HQ := hid (fun (x : C2) (w : World) => run_neqC x x w)
  have hne : ((xs.length : Int) != (xs.length : Int)) = false := by simp
  clear hc hd hv hu
  go_enter Try.func15, Try.ntmps15
  go_wp2_with fail
  go_loopw [5] (fun i wr => ∃ k : Nat, k ≤ xs.length ∧ i = .int .i64 k ∧ Below w.heap.size w wr) (fun i _ => xs.length - (intOf i).toNat)
  case atStart => exact ⟨0, Nat.zero_le _, rfl, Below.refl _ _⟩
  case round =>
    obtain ⟨k, hk, rfl, hnx⟩ := hrel
    have NX := hid hnx
    by_cases hlt : k < xs.length
    · obtain ⟨x, hx⟩ := get_some hlt
      obtain ⟨b, off, rfl, h1⟩ := HC.out k x hx
      obtain ⟨b', off', rfl, h2⟩ := HD.out k x hx
      obtain ⟨e0, e1⟩ := h1 wr hnx
      obtain ⟨f0, f1⟩ := h2 wr hnx
      have hq : ∀ w, (binOp .neq 35 (.agg #[.int .u32 (iv x.1), .int .i64 x.2]) (.agg #[.int .u32 (iv x.1), .int .i64 x.2])).run Try.prog w = .ok (.bool false) w := fun w => by rw [HQ.out x w]; simp
      have k0 : (0 : Int) ≤ (k : Int) := by omega
      clear h1 h2 hx hnx
      go_wp2_with fail
      go_quiet (fail)
      go_wp2_with fail
      go_roundw
      case rel => exact ⟨k + 1, by omega, by go_num, below_drewN' NX.out _⟩
      case measure => simp [intOf]; omega
    · clear hnx
      go_wp2_with fail
      go_ret
      exact ⟨rfl, NX.out⟩
/-- .. of a list that is read and one that the text writes out. -/
theorem csame_lit (l : List C2) (v : Value) (W : World) (o : Obj) (ho : o = .cells (l.flatMap cC).toArray 35) (m : Nat) (hm : m = l.length) (hl : l.length ≤ 1000) (h : RdCt W v l) :
    Calls Try.prog 15 #[v, .slice (some ⟨W.heap.size, 0, none⟩) m m] (W.alloc o) fun e w' => e = .returned (.bool true) ∧ Below W.heap.size W w' := by
  subst ho hm
  refine (csame_any l v _ _ (RdC.below h (below_alloc _ _)) (RdC.lit cC_length W l _ hl (by decide))).mono fun e w' ⟨he, hb⟩ => ⟨he, (below_alloc _ _).trans (hb.mono (below_alloc W _).size)⟩
theorem ssame_any (xs : List S) (v u : Value) (w : World) (hv : RdE enc w v xs) (hu : RdE enc w u xs) :
    Calls Try.prog 20 #[v, u] w fun e w' => e = .returned (.bool true) ∧ Below w.heap.size w w' :=
  (same_any xs xs v u w hv hu).mono fun e w' ⟨he, q, hq⟩ => ⟨by rw [he]; simp, by rw [hq]; exact below_drewN _ _ _⟩
theorem ssame_lit (l : List S) (v : Value) (W : World) (o : Obj) (ho : o = .cells (l.map enc).toArray 33) (m : Nat) (hm : m = l.length) (hl : l.length ≤ 1000) (h : RdE enc W v l) :
    Calls Try.prog 20 #[v, .slice (some ⟨W.heap.size, 0, none⟩) m m] (W.alloc o) fun e w' => e = .returned (.bool true) ∧ Below W.heap.size W w' := by
  subst ho hm
  refine (ssame_any l v _ _ (h.below (below_alloc _ _)) (RdE.lit W l _ hl)).mono fun e w' ⟨he, hb⟩ => ⟨he, (below_alloc _ _).trans (hb.mono (below_alloc W _).size)⟩

def fewB (t : T3) : Bool := decide (t.2.2.length ≤ 12) && decide (t.2.1.length ≤ 20)
theorem few27_any (t : T3) (av rv : Value) (w : World) (ht : RdT w av rv t) :
    Calls Try.prog 12 #[.agg #[.string t.1, av, rv]] w fun e w' => e = .returned (.bool (fewB t)) ∧ Below w.heap.size w w' := by
  have hb0 := below_alloc w (.cells #[.string t.1, av, rv] 25)
  have C3 := hid (fun W h => cells3 (w := w) (a := .string t.1) (b := av) (c := rv) (t := 25) W h)
  have T0 := hid (ht.below hb0)
  obtain ⟨w0, hw0⟩ : ∃ w0 : World, w.alloc (.cells #[.string t.1, av, rv] 25) = w0 := ⟨_, rfl⟩
  rw [hw0] at hb0 C3 T0
  have B0 := hid hb0
  have W0 := hid hw0
  have hsz0 := hb0.size
  clear hb0 hw0
  obtain ⟨nm, ats, rs⟩ := t
  obtain ⟨ao, acap, rfl, -⟩ := RdE.split ht.1
  obtain ⟨ro, rcap, rfl, -⟩ := RdR.split ht.2
  obtain ⟨c0, c1, c2⟩ := C3.out _ (Below.refl _ _)
  have FE := hid (show fewB (nm, ats, rs) = (decide (rs.length ≤ 12) && decide (ats.length ≤ 20)) from rfl)
  clear T0 C3 ht
  by_cases h1 : rs.length ≤ 12
  · have d1 : decide ((rs.length : Int) ≤ 12) = true := by simp; omega
    by_cases h2 : ats.length ≤ 20
    · have d2 : decide ((ats.length : Int) ≤ 20) = true := by simp; omega
      rw [decide_eq_true h1, decide_eq_true h2] at FE
      clear h1 h2
      go_enter Try.func12, Try.ntmps12
      go_wp2_with fail
      rw [W0.out]
      go_wp2_with fail
      go_ret
      exact ⟨by rw [FE.out]; rfl, B0.out⟩
    · have d2 : decide ((ats.length : Int) ≤ 20) = false := by simp; omega
      rw [decide_eq_true h1, decide_eq_false h2] at FE
      clear h1 h2
      go_enter Try.func12, Try.ntmps12
      go_wp2_with fail
      rw [W0.out]
      go_wp2_with fail
      go_ret
      exact ⟨by rw [FE.out]; rfl, B0.out⟩
  · have d1 : decide ((rs.length : Int) ≤ 12) = false := by simp; omega
    rw [decide_eq_false h1] at FE
    clear h1
    go_enter Try.func12, Try.ntmps12
    go_wp2_with fail
    rw [W0.out]
    go_wp2_with fail
    go_ret
    exact ⟨by rw [FE.out]; rfl, B0.out⟩

end Go.Proofs.Ytkehelplmipenaa
