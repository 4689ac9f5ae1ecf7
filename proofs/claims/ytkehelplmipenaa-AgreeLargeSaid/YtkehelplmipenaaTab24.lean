/- The laws of chapter 27 over tables: AgreeSets, AgreeMaximal, AgreeWitness, AgreeOf. -/
import Derived.Test.YtkehelplmipenaaTab23
import Derived.IntWalk
namespace Go.Proofs.Ytkehelplmipenaa
open Go.RowKit

theorem wrap64_small {x : Int} (h0 : 0 ≤ x) (h1 : x ≤ 100000) : wrap64 x = x := by unfold wrap64; omega

/-- The sum of the counts of a list. -/
def sumL (l : List C2) : Int := (l.map (·.2)).sum
theorem sumL_next {l : List C2} {k : Nat} {x : C2} (h : l[k]? = some x) : sumL (l.take (k + 1)) = sumL (l.take k) + x.2 := by
  unfold sumL
  rw [take_next h, List.map_append, List.sum_append]; simp
theorem sumL_cnt (ps : List S) : ∀ ys : List S, sumL (ys.map fun s => (s, (ps.count s : Int))) = ((ys.map fun s => ps.count s).sum : Nat) := by
  intro ys
  induction ys with
  | nil => rfl
  | cons y ys ih =>
    unfold sumL at ih ⊢
    simp only [List.map_cons, List.sum_cons, ih]
    omega
theorem sumL_cntL (ps : List S) : sumL (cntL ps) = ps.length := by
  unfold cntL
  rw [sumL_cnt, cntL_sum]
theorem sumN_take (l : List Nat) (k : Nat) : (l.take k).sum ≤ l.sum := by
  have h := congrArg List.sum (List.take_append_drop k l)
  rw [List.sum_append] at h
  omega
theorem sumL_bound (ps : List S) (k : Nat) : 0 ≤ sumL ((cntL ps).take k) ∧ sumL ((cntL ps).take k) ≤ ps.length := by
  have e : (cntL ps).take k = ((ordS ps).take k).map fun s => (s, (ps.count s : Int)) := by unfold cntL; rw [List.map_take]
  rw [e, sumL_cnt]
  have h1 := sumN_take ((ordS ps).map fun s => ps.count s) k
  rw [← List.map_take, cntL_sum] at h1
  omega
theorem setsL_sum (t : T3) (k : Nat) : 0 ≤ sumL ((setsL t).take k) ∧ sumL ((setsL t).take k) ≤ 40000 := by
  unfold setsL
  split
  · rename_i h
    have h1 := sumL_bound (pairsS t.2.2) k
    have h2 := pairs_bound h
    omega
  · simp [sumL]
theorem setsL_total {t : T3} (h : tabE2 t = 0) : 2 * sumL (setsL t) = (t.2.2.length : Int) * ((t.2.2.length : Int) - 1) := by
  unfold setsL
  rw [if_pos h, sumL_cntL]
  have h1 := pairsS_twice t.2.2
  have h2 : (t.2.2.length : Int) * (t.2.2.length : Int) = ((t.2.2.length * t.2.2.length : Nat) : Int) := by rw [Int.natCast_mul]
  rw [Int.mul_sub, Int.mul_one, h2]
  omega

set_option maxHeartbeats 1600000 in
set_option maxRecDepth 100000 in
theorem gWitnessL (t : T3) (av rv : Value) (s : S) (w : World) (ht : RdT w av rv t) :
    Calls Try.prog 5 #[.agg #[.string t.1, av, rv], enc s] w fun e w' => e = .returned (.bool true) ∧ Below w.heap.size w w' := by
  have hb0 := below_alloc w (.cells #[.string t.1, av, rv] 25)
  have C3 := hid (fun W h => cells3 (w := w) (a := .string t.1) (b := av) (c := rv) (t := 25) W h)
  have T0 := hid (ht.below hb0)
  obtain ⟨w0, hw0⟩ : ∃ w0 : World, w.alloc (.cells #[.string t.1, av, rv] 25) = w0 := ⟨_, rfl⟩
  rw [hw0] at hb0 C3 T0
  have B0 := hid hb0
  have W0 := hid hw0
  have hsz0 := hb0.size
  clear hb0 hw0
  have AW := hid (fun (W : World) => awake27_any W)
  have FW := hid (fun (W : World) (h : Below w0.heap.size w0 W) => few27_any t av rv W (T0.out.below h))
  have S1 := hid (fun (W : World) (h : Below w0.heap.size w0 W) => awitR t av rv s W (T0.out.below h))
  have S2 := hid (fun (W : World) (h : Below w0.heap.size w0 W) => rwit_any t av rv s W (T0.out.below h))
  have EP := hid (fun (x y : Int × Int) (b c : Bool) (w : World) => run_eqlP x y b c w)
  obtain ⟨t00, t01, t02⟩ := C3.out _ (Below.refl _ _)
  have D0 := hid (Below.refl w0.heap.size w0)
  generalize witE t s = we at *
  generalize fewB t = fb at *
  obtain ⟨nm, ats, rs⟩ := t
  clear ht T0
  unfold enc at *
  cases fb with
  | false =>
    go_enter Try.func5, Try.ntmps5
    go_wp2_with fail
    rw [W0.out]
    go_wp2_with fail
    refine (AW.out _).mono ?_
    rintro e w1 ⟨rfl, hb1⟩
    have D1 := hid (D0.out.trans (hb1.mono D0.out.size))
    obtain ⟨t10, t11, t12⟩ := C3.out _ D1.out
    clear hb1 t00 t01 t02
    go_wp2_with fail
    refine (FW.out _ D1.out).mono ?_
    rintro e w2 ⟨rfl, hb2⟩
    have D2 := hid (D1.out.trans (hb2.mono D1.out.size))
    obtain ⟨t20, t21, t22⟩ := C3.out _ D2.out
    clear hb2 t10 t11 t12
    go_wp2_with fail
    refine (AW.out _).mono ?_
    rintro e w3 ⟨rfl, hb3⟩
    have D3 := hid (D2.out.trans (hb3.mono D2.out.size))
    obtain ⟨t30, t31, t32⟩ := C3.out _ D3.out
    clear hb3 t20 t21 t22
    go_wp2_with fail
    go_ret
    exact ⟨rfl, B0.out.trans (D3.out.mono hsz0)⟩
  | true =>
    cases we with
    | none =>
      have hq : ∀ w, (binOp .eql 45 (.agg #[.int .i64 0, .int .i64 0, .bool false]) (.agg #[.int .i64 0, .int .i64 0, .bool false])).run Try.prog w = .ok (.bool true) w := fun w => EP.out (0, 0) (0, 0) false false w
      go_enter Try.func5, Try.ntmps5
      go_wp2_with fail
      rw [W0.out]
      go_wp2_with fail
      refine (AW.out _).mono ?_
      rintro e w1 ⟨rfl, hb1⟩
      have D1 := hid (D0.out.trans (hb1.mono D0.out.size))
      obtain ⟨t10, t11, t12⟩ := C3.out _ D1.out
      clear hb1 t00 t01 t02
      go_wp2_with fail
      refine (FW.out _ D1.out).mono ?_
      rintro e w2 ⟨rfl, hb2⟩
      have D2 := hid (D1.out.trans (hb2.mono D1.out.size))
      obtain ⟨t20, t21, t22⟩ := C3.out _ D2.out
      clear hb2 t10 t11 t12
      go_wp2_with fail
      refine (S1.out _ D2.out).mono ?_
      rintro e w3 ⟨he3, hb3⟩
      change e = .returned (.tuple #[.int .i64 0, .int .i64 0, .bool false]) at he3
      subst he3
      have D3 := hid (D2.out.trans (hb3.mono D2.out.size))
      obtain ⟨t30, t31, t32⟩ := C3.out _ D3.out
      clear hb3 t20 t21 t22
      go_wp2_with fail
      refine (S2.out _ D3.out).mono ?_
      rintro e w4 ⟨he4, hb4⟩
      change e = .returned (.agg #[.int .i64 0, .int .i64 0, .bool false]) at he4
      subst he4
      have D4 := hid (D3.out.trans (hb4.mono D3.out.size))
      clear hb4 t30 t31 t32
      go_wp2_with fail
      go_ret
      exact ⟨rfl, B0.out.trans (D4.out.mono hsz0)⟩
    | some x =>
      have hq : ∀ w, (binOp .eql 45 (.agg #[.int .i64 x.1, .int .i64 x.2, .bool true]) (.agg #[.int .i64 x.1, .int .i64 x.2, .bool true])).run Try.prog w = .ok (.bool true) w := fun w => (EP.out x x true true w).trans (by simp)
      go_enter Try.func5, Try.ntmps5
      go_wp2_with fail
      rw [W0.out]
      go_wp2_with fail
      refine (AW.out _).mono ?_
      rintro e w1 ⟨rfl, hb1⟩
      have D1 := hid (D0.out.trans (hb1.mono D0.out.size))
      obtain ⟨t10, t11, t12⟩ := C3.out _ D1.out
      clear hb1 t00 t01 t02
      go_wp2_with fail
      refine (FW.out _ D1.out).mono ?_
      rintro e w2 ⟨rfl, hb2⟩
      have D2 := hid (D1.out.trans (hb2.mono D1.out.size))
      obtain ⟨t20, t21, t22⟩ := C3.out _ D2.out
      clear hb2 t10 t11 t12
      go_wp2_with fail
      refine (S1.out _ D2.out).mono ?_
      rintro e w3 ⟨he3, hb3⟩
      change e = .returned (.tuple #[.int .i64 x.1, .int .i64 x.2, .bool true]) at he3
      subst he3
      have D3 := hid (D2.out.trans (hb3.mono D2.out.size))
      obtain ⟨t30, t31, t32⟩ := C3.out _ D3.out
      clear hb3 t20 t21 t22
      go_wp2_with fail
      refine (S2.out _ D3.out).mono ?_
      rintro e w4 ⟨he4, hb4⟩
      change e = .returned (.agg #[.int .i64 x.1, .int .i64 x.2, .bool true]) at he4
      subst he4
      have D4 := hid (D3.out.trans (hb4.mono D3.out.size))
      clear hb4 t30 t31 t32
      go_wp2_with fail
      go_ret
      exact ⟨rfl, B0.out.trans (D4.out.mono hsz0)⟩

set_option maxHeartbeats 1600000 in
set_option maxRecDepth 100000 in
theorem gOfL (t : T3) (av rv : Value) (a b : Int) (w : World) (ht : RdT w av rv t) :
    Calls Try.prog 7 #[.agg #[.string t.1, av, rv], .int .i64 a, .int .i64 b] w fun e w' => e = .returned (.bool true) ∧ Below w.heap.size w w' := by
  have hb0 := below_alloc w (.cells #[.string t.1, av, rv] 25)
  have C3 := hid (fun W h => cells3 (w := w) (a := .string t.1) (b := av) (c := rv) (t := 25) W h)
  have T0 := hid (ht.below hb0)
  obtain ⟨w0, hw0⟩ : ∃ w0 : World, w.alloc (.cells #[.string t.1, av, rv] 25) = w0 := ⟨_, rfl⟩
  rw [hw0] at hb0 C3 T0
  have B0 := hid hb0
  have W0 := hid hw0
  have hsz0 := hb0.size
  clear hb0 hw0
  have AW := hid (fun (W : World) => awake27_any W)
  have FW := hid (fun (W : World) (h : Below w0.heap.size w0 W) => few27_any t av rv W (T0.out.below h))
  have S1 := hid (fun (W : World) (h : Below w0.heap.size w0 W) => aof_any t av rv a b W (T0.out.below h))
  have S2 := hid (fun (W : World) (h : Below w0.heap.size w0 W) => rof_any t av rv a b W (T0.out.below h))
  obtain ⟨t00, t01, t02⟩ := C3.out _ (Below.refl _ _)
  have D0 := hid (Below.refl w0.heap.size w0)
  generalize (ofS t a b).1 = o1 at *
  generalize (ofS t a b).2 = o2 at *
  generalize fewB t = fb at *
  obtain ⟨nm, ats, rs⟩ := t
  clear ht T0
  cases fb with
  | false =>
    go_enter Try.func7, Try.ntmps7
    go_wp2_with fail
    rw [W0.out]
    go_wp2_with fail
    refine (AW.out _).mono ?_
    rintro e w1 ⟨rfl, hb1⟩
    have D1 := hid (D0.out.trans (hb1.mono D0.out.size))
    obtain ⟨t10, t11, t12⟩ := C3.out _ D1.out
    clear hb1 t00 t01 t02
    go_wp2_with fail
    refine (FW.out _ D1.out).mono ?_
    rintro e w2 ⟨rfl, hb2⟩
    have D2 := hid (D1.out.trans (hb2.mono D1.out.size))
    obtain ⟨t20, t21, t22⟩ := C3.out _ D2.out
    clear hb2 t10 t11 t12
    go_wp2_with fail
    refine (AW.out _).mono ?_
    rintro e w3 ⟨rfl, hb3⟩
    have D3 := hid (D2.out.trans (hb3.mono D2.out.size))
    obtain ⟨t30, t31, t32⟩ := C3.out _ D3.out
    clear hb3 t20 t21 t22
    go_wp2_with fail
    go_ret
    exact ⟨rfl, B0.out.trans (D3.out.mono hsz0)⟩
  | true =>
    go_enter Try.func7, Try.ntmps7
    go_wp2_with fail
    rw [W0.out]
    go_wp2_with fail
    refine (AW.out _).mono ?_
    rintro e w1 ⟨rfl, hb1⟩
    have D1 := hid (D0.out.trans (hb1.mono D0.out.size))
    obtain ⟨t10, t11, t12⟩ := C3.out _ D1.out
    clear hb1 t00 t01 t02
    go_wp2_with fail
    refine (FW.out _ D1.out).mono ?_
    rintro e w2 ⟨rfl, hb2⟩
    have D2 := hid (D1.out.trans (hb2.mono D1.out.size))
    obtain ⟨t20, t21, t22⟩ := C3.out _ D2.out
    clear hb2 t10 t11 t12
    go_wp2_with fail
    refine (S1.out _ D2.out).mono ?_
    rintro e w3 ⟨rfl, hb3⟩
    have D3 := hid (D2.out.trans (hb3.mono D2.out.size))
    obtain ⟨t30, t31, t32⟩ := C3.out _ D3.out
    clear hb3 t20 t21 t22
    go_wp2_with fail
    refine (S2.out _ D3.out).mono ?_
    rintro e w4 ⟨rfl, hb4⟩
    have D4 := hid (D3.out.trans (hb4.mono D3.out.size))
    obtain ⟨t40, t41, t42⟩ := C3.out _ D4.out
    clear hb4 t30 t31 t32
    go_wp2_with fail
    go_ret
    exact ⟨by first | rfl | simp, B0.out.trans (D4.out.mono hsz0)⟩

set_option maxHeartbeats 1600000 in
set_option maxRecDepth 100000 in
theorem gMaximalL (t : T3) (av rv : Value) (a : Int) (w : World) (ht : RdT w av rv t) :
    Calls Try.prog 4 #[.agg #[.string t.1, av, rv], .int .i64 a] w fun e w' => e = .returned (.bool true) ∧ Below w.heap.size w w' := by
  have hb0 := below_alloc w (.cells #[.string t.1, av, rv] 25)
  have C3 := hid (fun W h => cells3 (w := w) (a := .string t.1) (b := av) (c := rv) (t := 25) W h)
  have T0 := hid (ht.below hb0)
  obtain ⟨w0, hw0⟩ : ∃ w0 : World, w.alloc (.cells #[.string t.1, av, rv] 25) = w0 := ⟨_, rfl⟩
  rw [hw0] at hb0 C3 T0
  have B0 := hid hb0
  have W0 := hid hw0
  have hsz0 := hb0.size
  clear hb0 hw0
  have AW := hid (fun (W : World) => awake27_any W)
  have FW := hid (fun (W : World) (h : Below w0.heap.size w0 W) => few27_any t av rv W (T0.out.below h))
  have S1 := hid (fun (W : World) (h : Below w0.heap.size w0 W) => amaxR t av rv a W (T0.out.below h))
  have S2 := hid (fun (W : World) (h : Below w0.heap.size w0 W) => rmaxR t av rv a W (T0.out.below h))
  have S3 := hid (fun (W : World) (h : Below w0.heap.size w0 W) => adiffR t av rv a W (T0.out.below h))
  have S4 := hid (fun (W : World) (h : Below w0.heap.size w0 W) => rdiffR t av rv a W (T0.out.below h))
  have SM := hid (fun (xs : List S) (v u : Value) (w : World) (hv : RdE enc w v xs) (hu : RdE enc w u xs) => ssame_any xs v u w hv hu)
  obtain ⟨t00, t01, t02⟩ := C3.out _ (Below.refl _ _)
  have D0 := hid (Below.refl w0.heap.size w0)
  generalize maxL t a = ml at *
  generalize difL t a = dl at *
  generalize arityE t a = ae at *
  generalize fewB t = fb at *
  obtain ⟨nm, ats, rs⟩ := t
  clear ht T0
  cases fb with
  | false =>
    go_enter Try.func4, Try.ntmps4
    go_wp2_with fail
    rw [W0.out]
    go_wp2_with fail
    refine (AW.out _).mono ?_
    rintro e w1 ⟨rfl, hb1⟩
    have D1 := hid (D0.out.trans (hb1.mono D0.out.size))
    obtain ⟨t10, t11, t12⟩ := C3.out _ D1.out
    clear hb1 t00 t01 t02
    go_wp2_with fail
    refine (FW.out _ D1.out).mono ?_
    rintro e w2 ⟨rfl, hb2⟩
    have D2 := hid (D1.out.trans (hb2.mono D1.out.size))
    obtain ⟨t20, t21, t22⟩ := C3.out _ D2.out
    clear hb2 t10 t11 t12
    go_wp2_with fail
    refine (AW.out _).mono ?_
    rintro e w3 ⟨rfl, hb3⟩
    have D3 := hid (D2.out.trans (hb3.mono D2.out.size))
    obtain ⟨t30, t31, t32⟩ := C3.out _ D3.out
    clear hb3 t20 t21 t22
    go_wp2_with fail
    go_ret
    exact ⟨rfl, B0.out.trans (D3.out.mono hsz0)⟩
  | true =>
    go_enter Try.func4, Try.ntmps4
    go_wp2_with fail
    rw [W0.out]
    go_wp2_with fail
    refine (AW.out _).mono ?_
    rintro e w1 ⟨rfl, hb1⟩
    have D1 := hid (D0.out.trans (hb1.mono D0.out.size))
    obtain ⟨t10, t11, t12⟩ := C3.out _ D1.out
    clear hb1 t00 t01 t02
    go_wp2_with fail
    refine (FW.out _ D1.out).mono ?_
    rintro e w2 ⟨rfl, hb2⟩
    have D2 := hid (D1.out.trans (hb2.mono D1.out.size))
    obtain ⟨t20, t21, t22⟩ := C3.out _ D2.out
    clear hb2 t10 t11 t12
    go_wp2_with fail
    refine (S1.out _ D2.out).mono ?_
    rintro e w3 ⟨v3, rfl, hr3, hb3⟩
    have D3 := hid (D2.out.trans (hb3.mono D2.out.size))
    have R3 := hid hr3
    clear hr3
    obtain ⟨t30, t31, t32⟩ := C3.out _ D3.out
    clear hb3 t20 t21 t22
    go_wp2_with fail
    refine (S2.out _ D3.out).mono ?_
    rintro e w4 ⟨v4, rfl, hr4, hb4⟩
    have D4 := hid (D3.out.trans (hb4.mono D3.out.size))
    replace R3 := hid (R3.out.below hb4)
    have R4 := hid hr4
    clear hr4
    obtain ⟨t40, t41, t42⟩ := C3.out _ D4.out
    clear hb4 t30 t31 t32
    go_wp2_with fail
    refine (S3.out _ D4.out).mono ?_
    rintro e w5 ⟨v5, rfl, hr5, hb5⟩
    have D5 := hid (D4.out.trans (hb5.mono D4.out.size))
    replace R3 := hid (R3.out.below hb5)
    replace R4 := hid (R4.out.below hb5)
    have R5 := hid hr5
    clear hr5
    obtain ⟨t50, t51, t52⟩ := C3.out _ D5.out
    clear hb5 t40 t41 t42
    go_wp2_with fail
    refine (S4.out _ D5.out).mono ?_
    rintro e w6 ⟨v6, rfl, hr6, hb6⟩
    have D6 := hid (D5.out.trans (hb6.mono D5.out.size))
    replace R3 := hid (R3.out.below hb6)
    replace R4 := hid (R4.out.below hb6)
    replace R5 := hid (R5.out.below hb6)
    have R6 := hid hr6
    clear hr6
    obtain ⟨t60, t61, t62⟩ := C3.out _ D6.out
    clear hb6 t50 t51 t52
    go_wp2_with fail
    refine (SM.out _ _ _ _ R3.out R4.out).mono ?_
    rintro e w7 ⟨rfl, hb7⟩
    have D7 := hid (D6.out.trans (hb7.mono D6.out.size))
    replace R5 := hid (R5.out.below hb7)
    replace R6 := hid (R6.out.below hb7)
    obtain ⟨t70, t71, t72⟩ := C3.out _ D7.out
    clear hb7 t60 t61 t62
    go_wp2_with fail
    refine (SM.out _ _ _ _ R5.out R6.out).mono ?_
    rintro e w8 ⟨rfl, hb8⟩
    have D8 := hid (D7.out.trans (hb8.mono D7.out.size))
    obtain ⟨t80, t81, t82⟩ := C3.out _ D8.out
    clear hb8 t70 t71 t72
    go_wp2_with fail
    go_ret
    exact ⟨rfl, B0.out.trans (D8.out.mono hsz0)⟩

set_option maxHeartbeats 1600000 in
set_option maxRecDepth 100000 in
theorem gSetsL (t : T3) (av rv : Value) (w : World) (ht : RdT w av rv t) :
    Calls Try.prog 3 #[.agg #[.string t.1, av, rv]] w fun e w' => e = .returned (.bool true) ∧ Below w.heap.size w w' := by
  have hb0 := below_alloc w (.cells #[.string t.1, av, rv] 25)
  have C3 := hid (fun W h => cells3 (w := w) (a := .string t.1) (b := av) (c := rv) (t := 25) W h)
  have T0 := hid (ht.below hb0)
  obtain ⟨w0, hw0⟩ : ∃ w0 : World, w.alloc (.cells #[.string t.1, av, rv] 25) = w0 := ⟨_, rfl⟩
  rw [hw0] at hb0 C3 T0
  have B0 := hid hb0
  have W0 := hid hw0
  have hsz0 := hb0.size
  clear hb0 hw0
  have AW := hid (fun (W : World) => awake27_any W)
  have FW := hid (fun (W : World) (h : Below w0.heap.size w0 W) => few27_any t av rv W (T0.out.below h))
  have S1 := hid (fun (W : World) (h : Below w0.heap.size w0 W) => asetsR t av rv W (T0.out.below h))
  have S2 := hid (fun (W : World) (h : Below w0.heap.size w0 W) => rsetsR t av rv W (T0.out.below h))
  have SM := hid (fun (xs : List C2) (v u : Value) (w : World) (hv : RdCt w v xs) (hu : RdCt w u xs) => csame_any xs v u w hv hu)
  have SB := hid (fun k => setsL_sum t k)
  have ST := hid (fun (h : tabE2 t = 0) => setsL_total h)
  have SN := hid (fun (k : Nat) (x : C2) (h : (setsL t)[k]? = some x) => sumL_next h)
  have hll := setsL_length t
  obtain ⟨t00, t01, t02⟩ := C3.out _ (Below.refl _ _)
  have D0 := hid (Below.refl w0.heap.size w0)
  generalize setsL t = L at *
  have FB := hid (show fewB t = true → t.2.2.length ≤ 12 from fun h => by unfold fewB at h; simp at h; exact h.1)
  generalize fewB t = fb at *
  obtain ⟨nm, ats, rs⟩ := t
  obtain ⟨ro, rcap, rfl, hrl, -⟩ := RdR.split ht.2
  clear ht T0
  cases fb with
  | false =>
    go_enter Try.func3, Try.ntmps3
    go_wp2_with fail
    rw [W0.out]
    go_wp2_with fail
    refine (AW.out _).mono ?_
    rintro e w1 ⟨rfl, hb1⟩
    have D1 := hid (D0.out.trans (hb1.mono D0.out.size))
    obtain ⟨t10, t11, t12⟩ := C3.out _ D1.out
    clear hb1 t00 t01 t02
    go_wp2_with fail
    refine (FW.out _ D1.out).mono ?_
    rintro e w2 ⟨rfl, hb2⟩
    have D2 := hid (D1.out.trans (hb2.mono D1.out.size))
    obtain ⟨t20, t21, t22⟩ := C3.out _ D2.out
    clear hb2 t10 t11 t12
    go_wp2_with fail
    refine (AW.out _).mono ?_
    rintro e w3 ⟨rfl, hb3⟩
    have D3 := hid (D2.out.trans (hb3.mono D2.out.size))
    obtain ⟨t30, t31, t32⟩ := C3.out _ D3.out
    clear hb3 t20 t21 t22
    go_wp2_with fail
    go_ret
    exact ⟨rfl, B0.out.trans (D3.out.mono hsz0)⟩
  | true =>
    have h12 : rs.length ≤ 12 := FB.out rfl
    have ST2 := hid (show tabE2 (nm, ats, rs) = 0 → 2 * sumL L = (rs.length : Int) * ((rs.length : Int) - 1) from ST.out)
    clear ST FB
    generalize tabE2 (nm, ats, rs) = te at *
    go_enter Try.func3, Try.ntmps3
    go_wp2_with fail
    rw [W0.out]
    go_wp2_with fail
    refine (AW.out _).mono ?_
    rintro e w1 ⟨rfl, hb1⟩
    have D1 := hid (D0.out.trans (hb1.mono D0.out.size))
    obtain ⟨t10, t11, t12⟩ := C3.out _ D1.out
    clear hb1 t00 t01 t02
    go_wp2_with fail
    refine (FW.out _ D1.out).mono ?_
    rintro e w2 ⟨rfl, hb2⟩
    have D2 := hid (D1.out.trans (hb2.mono D1.out.size))
    obtain ⟨t20, t21, t22⟩ := C3.out _ D2.out
    clear hb2 t10 t11 t12
    go_wp2_with fail
    refine (S1.out _ D2.out).mono ?_
    rintro e w3 ⟨v3, rfl, hr3, hb3⟩
    have D3 := hid (D2.out.trans (hb3.mono D2.out.size))
    have R3 := hid hr3
    clear hr3
    obtain ⟨t30, t31, t32⟩ := C3.out _ D3.out
    clear hb3 t20 t21 t22
    go_wp2_with fail
    refine (S2.out _ D3.out).mono ?_
    rintro e w4 ⟨v4, rfl, hr4, hb4⟩
    have D4 := hid (D3.out.trans (hb4.mono D3.out.size))
    replace R3 := hid (R3.out.below hb4)
    have R4 := hid hr4
    clear hr4
    obtain ⟨t40, t41, t42⟩ := C3.out _ D4.out
    clear hb4 t30 t31 t32
    obtain ⟨lo, lcap, rfl, -, hlc⟩ := RdCt.split R3.out
    have LC := hid hlc
    have hsz4 := D4.out.size
    clear hlc
    go_wp2_with fail
    go_loopw [7, 30] (fun c i wr => ∃ k : Nat, k ≤ L.length ∧ i = .int .i64 k ∧ c = .int .i64 (sumL (L.take k)) ∧ Below w4.heap.size w4 wr) (fun _ i _ => L.length - (intOf i).toNat)
    case atStart => exact ⟨0, Nat.zero_le _, rfl, rfl, Below.refl _ _⟩
    case round =>
      obtain ⟨k, hk, rfl, rfl, hnx⟩ := hrel
      have hsz := hnx.size
      have NX := hid hnx
      by_cases hlt : k < L.length
      · obtain ⟨x, hx⟩ := get_some hlt
        obtain ⟨b, off, rfl, h1⟩ := LC.out k x hx
        obtain ⟨e0, e1⟩ := h1 wr hnx
        obtain ⟨s0, s1⟩ := SB.out k
        obtain ⟨q0, q1⟩ := SB.out (k + 1)
        have N1 := SN.out k x hx
        rw [N1] at q0 q1
        have N2 := hid N1
        have hba := hid (below_alloc wr (.cells #[.int .u32 (iv x.1), .int .i64 x.2] 35))
        generalize sumL (L.take k) = sk at *
        clear h1 hx hnx N1
        go_wp2_with fail
        go_roundw
        case rel => exact ⟨k + 1, by omega, by go_num, by rw [N2.out], NX.out.trans (hba.out.mono hsz)⟩
        case measure => simp [intOf]; omega
      · obtain ⟨s0, s1⟩ := SB.out k
        rw [take_all hlt] at s0 s1 ⊢
        have DX := hid (D4.out.trans (hnx.mono hsz4))
        obtain ⟨t50, t51, t52⟩ := C3.out _ DX.out
        have CS := hid (SM.out L _ _ wr (R3.out.below hnx) (R4.out.below hnx))
        clear hnx t40 t41 t42
        generalize sumL L = sl at *
        by_cases hte : te = 0
        · have hE := hid (ST2.out hte)
          subst hte
          go_wp2_with fail
          refine CS.out.mono ?_
          rintro e w6 ⟨rfl, hb6⟩
          have D6 := hid (DX.out.trans (hb6.mono DX.out.size))
          obtain ⟨t60, t61, t62⟩ := C3.out _ D6.out
          clear hb6 t50 t51 t52
          have W64 := hid (show wrap64 (2 * sl) = 2 * sl from wrap64_small (by omega) (by omega))
          go_wp2_with fail
          go_ret
          exact ⟨ret_bool (by rw [← hE.out, W64.out]; simp), B0.out.trans (D6.out.mono hsz0)⟩
        · have hte2 : (te != 0) = true := by simpa using hte
          go_wp2_with fail
          refine CS.out.mono ?_
          rintro e w6 ⟨rfl, hb6⟩
          have D6 := hid (DX.out.trans (hb6.mono DX.out.size))
          clear hb6 t50 t51 t52
          go_wp2_with fail
          go_ret
          exact ⟨rfl, B0.out.trans (D6.out.mono hsz0)⟩

end Go.Proofs.Ytkehelplmipenaa
