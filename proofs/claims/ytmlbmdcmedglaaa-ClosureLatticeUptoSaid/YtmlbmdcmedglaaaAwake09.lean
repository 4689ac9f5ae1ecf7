/- The walk of chapter 9's awake: its examples hold. -/
import Derived.Test.YtmlbmdcmedglaaaClosed
import Derived.Test.YtmlbmdcmedglaaaFdT
import Derived.Test.YtmlbmdcmedglaaaGen
import Derived.Test.YtmlbmdcmedglaaaTraceL
namespace Go.Proofs.Ytmlbmdcmedglaaa
open Go.RowKit

def ex09 : List F := [(1#32, 2#32), (2#32, 4#32), (12#32, 1#32)]
theorem example_any (w : World) : Calls Try.prog 33 #[] w fun e w' => ∃ v, e = .returned v ∧ RdF w' v ex09 ∧ Below w.heap.size w w' := by
  have R := hid (RdC.lit (c := cF) cF_length w ex09 30 (by decide) (by decide))
  have A1 := hid (below_alloc w (.cells (ex09.flatMap cF).toArray 30))
  have e : (ex09.flatMap cF).toArray = #[.int .u32 1, .int .u32 2, .int .u32 2, .int .u32 4, .int .u32 12, .int .u32 1] := rfl
  rw [e] at R A1
  clear e
  go_enter Try.func33, Try.ntmps33
  go_wp2_with fail
  go_ret
  exact ⟨_, rfl, R.out, A1.out⟩

theorem ex09_close : closeS ex09 10#32 = 15#32 := closeS_iter 3 (by decide +kernel)
theorem ex09_close8 : closeS ex09 8#32 = 8#32 := closeS_iter 3 (by decide +kernel)
theorem ex09_trace : traceS ex09 10#32 = [1, 2] := by
  rw [traceS_some (i := 1) (f := (2#32, 4#32)) (by decide +kernel) rfl, traceS_some (i := 2) (f := (12#32, 1#32)) (by decide +kernel) rfl, traceS_none (by decide +kernel)]
theorem ex09_imp : impS ex09 (10#32, 1#32) = true := by
  unfold impS; rw [show closeS ex09 (10#32, 1#32).1 = 15#32 from ex09_close]; decide +kernel
theorem ex09_imp8 : impS ex09 (8#32, 1#32) = false := by
  unfold impS; rw [show closeS ex09 (8#32, 1#32).1 = 8#32 from ex09_close8]; decide +kernel
theorem ex09_valid : cloE 4 ex09 = 0 := by decide +kernel
theorem ex09_closed {ys : List S} (h : ClosedP 4 ex09 ys) : ys = [0#32, 4#32, 8#32, 6#32, 7#32, 15#32] := by
  have hk : ∀ k : Fin 16, (closedF ex09 (BitVec.ofNat 32 k.val) ↔ BitVec.ofNat 32 k.val ∈ [0#32, 4#32, 8#32, 6#32, 7#32, 15#32]) := by decide +kernel
  refine (h.2 ex09_valid).uniq (ys := [0#32, 4#32, 8#32, 6#32, 7#32, 15#32]) (q := fun s => s ∈ [0#32, 4#32, 8#32, 6#32, 7#32, 15#32]) ⟨by decide +kernel, fun _ => Iff.rfl⟩ fun s => ?_
  have hs : BitVec.ofNat 32 s.toNat = s := by apply BitVec.eq_of_toNat_eq; simp
  rw [show (4 : Int).toNat = 4 from rfl, ← le_full (m := 4)]
  constructor
  · rintro ⟨h1, h2⟩
    have := (hk ⟨s.toNat, h1⟩).1 (by rw [hs]; exact h2)
    rwa [hs] at this
  · intro h
    have hlt : s.toNat < 16 := by
      simp only [List.mem_cons, List.not_mem_nil, or_false] at h
      rcases h with rfl | rfl | rfl | rfl | rfl | rfl <;> decide
    refine ⟨hlt, ?_⟩
    have := (hk ⟨s.toNat, hlt⟩).2 (by rw [hs]; exact h)
    rwa [hs] at this

theorem traceR (fs : List F) (s : S) (v : Value) (w : World) (hv : RdF w v fs) :
    Calls Try.prog 20 #[v, enc s] w fun e w' => ∃ v', e = .returned v' ∧ RdE encI w' v' (traceS fs s) ∧ Below w.heap.size w w' :=
  (trace_any fs s v w hv).mono fun _ _ ⟨v', he, ho, hl, hb⟩ => ⟨v', he, RdE.of_owns ho (by omega), hb⟩
theorem refTraceR (fs : List F) (s : S) (v : Value) (w : World) (hv : RdF w v fs) :
    Calls Try.prog 22 #[v, enc s] w fun e w' => ∃ v', e = .returned v' ∧ RdE encI w' v' (traceS fs s) ∧ Below w.heap.size w w' :=
  (refTrace_any fs s v w hv).mono fun _ _ ⟨v', he, ho, hb⟩ => ⟨v', he, RdE.of_owns ho (by have := traceS_length fs s; omega), hb⟩
theorem cloneR (xs : List F) (v : Value) (w : World) (hv : RdF w v xs) (h41 : xs.length < 2199023255552) :
    Calls Try.prog 12 #[v] w fun e w' => ∃ v', e = .returned v' ∧ RdF w' v' xs ∧ Below w.heap.size w w' := by
  exact (cloneF_any xs v w hv h41).mono fun _ _ ⟨v', he, ho, hb⟩ => ⟨v', he, RdC.of_owns cF_length ho (by omega), hb⟩
theorem closedR (n : Int) (fs : List F) (v : Value) (w : World) (hv : RdF w v fs) :
    Calls Try.prog 23 #[.int .i64 n, v] w fun e w' => ∃ v' ys, e = .returned (.tuple #[v', .int .i64 (cloE n fs)]) ∧ RdE enc w' v' ys ∧ ClosedP n fs ys ∧ Below w.heap.size w w' :=
  (closed_any n fs v w hv).mono fun _ _ ⟨v', ys, he, ho, hp, hl, hb⟩ => ⟨v', ys, he, RdE.of_owns ho (by omega), hp, hb⟩
theorem refClosedR (n : Int) (fs : List F) (v : Value) (w : World) (hv : RdF w v fs) :
    Calls Try.prog 24 #[.int .i64 n, v] w fun e w' => ∃ v' ys, e = .returned (.tuple #[v', .int .i64 (cloE n fs)]) ∧ RdE enc w' v' ys ∧ ClosedP n fs ys ∧ Below w.heap.size w w' :=
  (refClosed_any n fs v w hv).mono fun _ _ ⟨v', ys, he, ho, hp, hl, hb⟩ => ⟨v', ys, he, RdE.of_owns ho (by omega), hp, hb⟩

/-- slices.Equal, of a list that is read and one that the text writes out. -/
theorem equalI_lit (l : List Nat) (v : Value) (W : World) (o : Obj) (ho : o = .cells (l.map encI).toArray 3) (m : Nat) (hm : m = l.length) (hl : l.length ≤ 1000) (h : RdE encI W v l) :
    Calls Try.prog 21 #[v, .slice (some ⟨W.heap.size, 0, none⟩) m m] (W.alloc o) fun e w' => e = .returned (.bool true) ∧ Below W.heap.size W w' := by
  subst ho hm
  refine (equalI_any l l v _ _ (h.below (below_alloc _ _)) (RdE.lit W l _ hl)).mono fun e w' ⟨he, q, hq⟩ => ⟨by rw [he]; simp, ?_⟩
  subst hq
  exact (below_alloc _ _).trans (below_drewN _ _ _)
theorem equalS_lit (l : List S) (v : Value) (W : World) (o : Obj) (ho : o = .cells (l.map enc).toArray 28) (m : Nat) (hm : m = l.length) (hl : l.length ≤ 1000) (h : RdE enc W v l) :
    Calls Try.prog 25 #[v, .slice (some ⟨W.heap.size, 0, none⟩) m m] (W.alloc o) fun e w' => e = .returned (.bool true) ∧ Below W.heap.size W w' := by
  subst ho hm
  refine (equalS_any l l v _ _ (h.below (below_alloc _ _)) (RdE.lit W l _ hl)).mono fun e w' ⟨he, q, hq⟩ => ⟨by rw [he]; simp, ?_⟩
  subst hq
  exact (below_alloc _ _).trans (below_drewN _ _ _)

set_option maxHeartbeats 1000000 in
theorem awake_any (w : World) : Calls Try.prog 10 #[] w fun e w' => e = .returned (.bool true) ∧ Below w.heap.size w w' := by
  have A0 := hid example_any
  have A1 := hid (fun (v : Value) (W : World) (h : RdF W v ex09) => closedR 4 ex09 v W h)
  have A2 := hid (fun (v : Value) (W : World) (h : RdF W v ex09) => close_any ex09 10#32 v W h)
  have A3 := hid (fun (v : Value) (W : World) (h : RdF W v ex09) => traceR ex09 10#32 v W h)
  have A4 := hid (fun (W : World) (v : Value) (h : RdE encI W v [1, 2]) => equalI_lit [1, 2] v W (.cells #[.int .i64 1, .int .i64 2] 3) rfl 2 rfl (by decide) h)
  have A5 := hid (fun (v : Value) (W : World) (h : RdF W v ex09) => implies_any ex09 (10#32, 1#32) v W h)
  have A6 := hid (fun (v : Value) (W : World) (h : RdF W v ex09) => implies_any ex09 (8#32, 1#32) v W h)
  have A7 := hid (fun (W : World) (v : Value) (h : RdE enc W v [0#32, 4#32, 8#32, 6#32, 7#32, 15#32]) => equalS_lit [0#32, 4#32, 8#32, 6#32, 7#32, 15#32] v W (.cells #[.int .u32 0, .int .u32 4, .int .u32 8, .int .u32 6, .int .u32 7, .int .u32 15] 28) rfl 6 rfl (by decide) h)
  rw [ex09_valid] at A1
  rw [ex09_close, show enc 10#32 = .int .u32 10 from rfl, show enc 15#32 = .int .u32 15 from rfl] at A2
  rw [ex09_trace, show enc 10#32 = .int .u32 10 from rfl] at A3
  rw [ex09_imp, show enc (10#32, 1#32).1 = .int .u32 10 from rfl, show enc (10#32, 1#32).2 = .int .u32 1 from rfl] at A5
  rw [ex09_imp8, show enc (8#32, 1#32).1 = .int .u32 8 from rfl, show enc (8#32, 1#32).2 = .int .u32 1 from rfl] at A6
  go_enter Try.func10, Try.ntmps10
  go_wp2_with fail
  refine (A0.out _).mono ?_
  rintro e w1 ⟨v, rfl, hr, hb1⟩
  have R := hid hr
  have B1 := hid hb1
  clear hr hb1
  go_wp2_with fail
  refine (A1.out v _ R.out).mono ?_
  rintro e w2 ⟨v2, ys, rfl, hr2, hp, hb2⟩
  obtain rfl := ex09_closed hp
  have R2 := hid hr2
  have B2 := hid (B1.out.trans (hb2.mono B1.out.size))
  have RW2 := hid (R.out.below hb2)
  clear hr2 hp hb2
  go_wp2_with fail
  refine (A2.out v _ RW2.out).mono ?_
  rintro e w3 ⟨rfl, hb3⟩
  have R3 := hid (R2.out.below hb3)
  have B3 := hid (B2.out.trans (hb3.mono B2.out.size))
  have RW3 := hid (RW2.out.below hb3)
  clear hb3
  go_wp2_with fail
  refine (A3.out v _ RW3.out).mono ?_
  rintro e w4 ⟨v4, rfl, hr4, hb4⟩
  have T4 := hid hr4
  have R4 := hid (R3.out.below hb4)
  have B4 := hid (B3.out.trans (hb4.mono B3.out.size))
  have RW4 := hid (RW3.out.below hb4)
  clear hb4 hr4
  go_wp2_with fail
  refine (A4.out _ v4 T4.out).mono ?_
  rintro e w5 ⟨rfl, hb5⟩
  have R5 := hid (R4.out.below hb5)
  have B5 := hid (B4.out.trans (hb5.mono B4.out.size))
  have RW5 := hid (RW4.out.below hb5)
  clear hb5
  go_wp2_with fail
  refine (A5.out v _ RW5.out).mono ?_
  rintro e w6 ⟨rfl, hb6⟩
  have R6 := hid (R5.out.below hb6)
  have B6 := hid (B5.out.trans (hb6.mono B5.out.size))
  have RW6 := hid (RW5.out.below hb6)
  clear hb6
  go_wp2_with fail
  refine (A6.out v _ RW6.out).mono ?_
  rintro e w7 ⟨rfl, hb7⟩
  have R7 := hid (R6.out.below hb7)
  have B7 := hid (B6.out.trans (hb7.mono B6.out.size))
  clear hb7
  go_wp2_with fail
  refine (A7.out _ v2 R7.out).mono ?_
  rintro e w8 ⟨rfl, hb8⟩
  have B8 := hid (B7.out.trans (hb8.mono B7.out.size))
  clear hb8
  go_wp2_with fail
  go_ret
  exact ⟨rfl, B8.out⟩

end Go.Proofs.Ytmlbmdcmedglaaa
