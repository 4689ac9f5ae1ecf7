/- The examples of chapter 10, reckoned, and the walks of its raw and awake. -/
import Derived.Test.YtmlbmdcmedglaaaDoorMergeL
import Derived.Test.YtmlbmdcmedglaaaDoorTraceL
import Derived.Test.YtmlbmdcmedglaaaDoorFdV
import Derived.Test.YtmlbmdcmedglaaaDoorIsMin
import Derived.Test.YtmlbmdcmedglaaaDoorGen
import Derived.Test.YtmlbmdcmedglaaaDoorEqF
namespace Go.Proofs.YtmlbmdcmedglaaaDoor

/-- Implication by four rounds, where they suffice. -/
noncomputable def impC (fs : List F) (f : F) : Bool := if closedF fs (iterF fs 4 f.1) then decide (sub f.2 (iterF fs 4 f.1)) else impS fs f
theorem impC_eq : impC = impS := by
  funext fs f
  unfold impC
  split
  · rename_i h; unfold impS; rw [closeS_iter 4 h]
  · rfl
section
variable (imp : List F → F → Bool)
def redG (l : List F) (i : Nat) : Bool := imp (othersF l i) (l.getD i (0#32, 0#32))
def trimStepG (i : Nat) (l : List F) (a : Nat) : List F :=
  match l[i]? with
  | none => l
  | some x => if imp l (x.1 &&& ~~~ bit a, x.2) then l.set i (x.1 &&& ~~~ bit a, x.2) else l
def trimNG (l : List F) (i : Nat) (ns : List Nat) : List F := ns.foldl (trimStepG imp i) l
def trimFG (l : List F) : Nat → List F
  | 0 => l
  | k + 1 => trimNG imp (trimFG l k) k (lhsN (trimFG l k) k)
def dropFG : Nat → List F → Nat → List F
  | 0, l, _ => l
  | n + 1, l, i => if i < l.length then (if redG imp l i then dropFG n (othersF l i) i else dropFG n l (i + 1)) else l
def minG (l : List F) : List F := dropFG imp ((onceF (trimFG imp (splitF l) (splitF l).length)).length - 0) (onceF (trimFG imp (splitF l) (splitF l).length)) 0
end
theorem redG_eq : redG impS = redB := rfl
theorem trimStepG_eq : trimStepG impS = trimStep := rfl
theorem trimFG_eq (l : List F) : ∀ k, trimFG impS l k = trimF l k := by
  intro k
  induction k with
  | zero => rfl
  | succ k ih => unfold trimFG trimF; rw [ih]; rfl
theorem dropFG_eq : ∀ (n : Nat) (l : List F) (i : Nat), dropFG impS n l i = dropF n l i := by
  intro n
  induction n with
  | zero => intro l i; rfl
  | succ n ih => intro l i; unfold dropFG dropF; rw [ih, ih, redG_eq]
theorem minG_eq (l : List F) : minG impC l = minF l := by
  rw [impC_eq]
  unfold minG minF dropS
  rw [dropFG_eq, trimFG_eq]

def exA : List F := [(3#32, 4#32), (1#32, 2#32), (1#32, 12#32), (5#32, 1#32)]
def exB : List F := [(1#32, 2#32), (2#32, 1#32), (1#32, 4#32), (2#32, 4#32)]
def exC : List F := [(1#32, 2#32), (2#32, 4#32), (1#32, 4#32)]
theorem exA_valid : validF 4 exA = 0 := by decide +kernel
theorem exB_valid : validF 3 exB = 0 := by decide +kernel
theorem exA_min : minF exA = [(1#32, 4#32), (1#32, 2#32), (1#32, 8#32)] := by rw [← minG_eq]; decide +kernel
theorem exB_min : minF exB = [(1#32, 2#32), (2#32, 1#32), (2#32, 4#32)] := by rw [← minG_eq]; decide +kernel
theorem exC_red : (List.range exC.length).filter (redB exC) = [2] := by rw [← redG_eq, ← impC_eq]; decide +kernel
theorem exA_merge : mergeF [(1#32, 4#32), (1#32, 2#32), (1#32, 8#32)] = [(1#32, 14#32)] := by
  have h : ordS (([(1#32, 4#32), (1#32, 2#32), (1#32, 8#32)] : List F).map (·.1)) = [1#32] :=
    (ordS_ord _).uniq ⟨List.pairwise_singleton _ _, fun s => Iff.rfl⟩ fun s => by simp
  unfold mergeF
  rw [h]
  decide +kernel

end Go.Proofs.YtmlbmdcmedglaaaDoor

namespace Go.Proofs.YtmlbmdcmedglaaaDoor
open Go.RowKit

set_option maxRecDepth 100000 in
theorem raw_any (fs : List F) (v : Value) (w : World) (hv : RdF w v fs) (hl : fs.length < 1099511627776) :
    Calls Tryd.prog 19 #[v] w fun e w' => ∃ v', e = .returned v' ∧ RdF w' v' fs ∧ Below w.heap.size w w' := by
  obtain ⟨ao, cap, rfl, -, hc⟩ := hv.split
  have FC := hid hc
  clear hv hc
  go_enter Tryd.func19, Tryd.ntmps19
  go_wp2_with fail
  go_loopw [3, 8] (fun o i wr => ∃ k : Nat, k ≤ fs.length ∧ i = .int .i64 k ∧ wr.ownsRow w.heap.size 30 2 o (fs.take k).length ((fs.take k).flatMap cF) ∧ Below w.heap.size w wr) (fun _ i _ => fs.length - (intOf i).toNat)
  case atStart => exact ⟨0, Nat.zero_le _, rfl, World.ownsRow_nil _ _ _ _, Below.refl _ _⟩
  case round =>
    obtain ⟨k, hk, rfl, hown, hnx⟩ := hrel
    have hsz := hnx.size
    have hll : (fs.take k).length ≤ k := by simp; omega
    by_cases hlt : k < fs.length
    · obtain ⟨f, hf⟩ := get_some hlt
      obtain ⟨b, off, rfl, hfc⟩ := FC.out k f hf
      obtain ⟨e0, e1⟩ := hfc wr hnx
      have N := hid (take_next hf)
      clear hfc hf
      generalize fs.take k = xs at *
      have hb1 := below_alloc wr (.cells #[.int .u32 (iv f.1), .int .u32 (iv f.2)] 83)
      have hown1 := own_below hown hb1
      have hnx1 := hnx.trans (hb1.mono hsz)
      have HO := hid hown1
      have HN := hid hnx1
      have hs1 := hnx1.size
      clear hown hnx hb1 hown1 hnx1
      have hz : (wr.alloc (.cells #[.int .u32 (iv f.1), .int .u32 (iv f.2)] 83)).heap.size = wr.heap.size + 1 := by simp
      have CN := hid (cells_newF (wr.alloc (.cells #[.int .u32 (iv f.1), .int .u32 (iv f.2)] 83)) f (t := 30))
      rw [hz] at CN
      go_wp2_with (at_builtin; refine wpList_pushC rfl _ _ 24 rfl w.heap.size 30 (.agg #[.int .u32 0, .int .u32 0]) 2 8 undFDs infoFD rfl (by decide) (by decide) cF cF_length cF_one _ xs rfl (HO.out.alloc _) ⟨wr.heap.size + 1, 0, none⟩ f rfl CN.out (by first | omega | (simp; omega)) (by first | omega | (simp; omega)) ?_)
      intro v' w4 hown' hgrow
      have hb4 : Below w.heap.size w w4 := below_push HN.out hs1 HO.out hgrow
      clear hgrow HO HN e0 e1
      go_wp2_with fail
      go_roundw
      case rel => exact ⟨k + 1, by omega, by go_num, by rw [N.out]; simpa using hown', hb4⟩
      case measure => simp [intOf]; omega
    · rw [take_all hlt] at hown
      have R := hid (RdC.of_owns cF_length hown (by omega))
      go_wp2_with fail
      go_ret
      exact ⟨_, rfl, R.out, hnx⟩

/-- slices.Equal, of a list that is read and one that the text writes out. -/
theorem equalI_lit (l : List Nat) (v : Value) (W : World) (o : Obj) (ho : o = .cells (l.map encI).toArray 3) (m : Nat) (hm : m = l.length) (hl : l.length ≤ 1000) (h : RdE encI W v l) :
    Calls Tryd.prog 33 #[v, .slice (some ⟨W.heap.size, 0, none⟩) m m] (W.alloc o) fun e w' => e = .returned (.bool true) ∧ Below W.heap.size W w' := by
  subst ho hm
  refine (equalI_any l l v _ _ (h.below (below_alloc _ _)) (RdE.lit W l _ hl)).mono fun e w' ⟨he, q, hq⟩ => ⟨by rw [he]; simp, ?_⟩
  subst hq
  exact (below_alloc _ _).trans (below_drewN _ _ _)
theorem equalF_lit (l : List F) (v : Value) (W : World) (o : Obj) (ho : o = .cells (l.flatMap cF).toArray 30) (m : Nat) (hm : m = l.length) (hl : l.length ≤ 1000) (h : RdF W v l) :
    Calls Tryd.prog 20 #[v, .slice (some ⟨W.heap.size, 0, none⟩) m m] (W.alloc o) fun e w' => e = .returned (.bool true) ∧ Below W.heap.size W w' := by
  subst ho hm
  refine (equalF_any l l v _ _ (h.below (below_alloc _ _)) (RdC.lit cF_length W l _ hl (by decide))).mono fun e w' ⟨he, q, hq⟩ => ⟨by rw [he]; simp, ?_⟩
  subst hq
  exact (below_alloc _ _).trans (below_drewN _ _ _)

theorem minimalR (n : Int) (fs : List F) (v : Value) (w : World) (hT : Tab w) (hv : RdF w v fs) :
    Calls Tryd.prog 25 #[.int .i64 n, v] w fun e w' => ∃ v', e = .returned (.tuple #[v', .int .i64 (validF n fs)]) ∧ RdF w' v' (resM n fs) ∧ Below w.heap.size w w' :=
  (cminimal_any n fs v w hT hv).mono fun _ _ ⟨v', he, ho, hb⟩ => ⟨v', he, RdC.of_owns cF_length ho (by have := resM_length n fs; omega), hb⟩
theorem mergeF_length (l : List F) : (mergeF l).length ≤ l.length := by
  have h1 : (mergeF l).length = (ordS (l.map (·.1))).length := by unfold mergeF; simp
  have h2 : (Go.Lib.compact (sortS (l.map (·.1)))).length ≤ (sortS (l.map (·.1))).length := by
    unfold Go.Lib.compact Go.Lib.compactUpTo
    rw [List.length_map]
    exact Nat.le_trans (List.length_filter_le _ _) (by simp)
  have h3 : (sortS (l.map (·.1))).length = l.length := by rw [(sortS_perm _).length_eq]; simp
  unfold ordS at h1; omega
theorem canonicalR (n : Int) (fs : List F) (v : Value) (w : World) (hT : Tab w) (hv : RdF w v fs) :
    Calls Tryd.prog 27 #[.int .i64 n, v] w fun e w' => ∃ v', e = .returned (.tuple #[v', .int .i64 (validF n fs)]) ∧ RdF w' v' (mergeF (resM n fs)) ∧ Below w.heap.size w w' :=
  (canonical_any n fs v w hT hv).mono fun _ _ ⟨v', he, ho, hb⟩ => ⟨v', he, RdC.of_owns cF_length ho (by have := resM_length n fs; have := mergeF_length (resM n fs); omega), hb⟩
theorem redI_length (fs : List F) : (redI fs).length ≤ fs.length := by
  unfold redI; exact Nat.le_trans (List.length_filter_le _ _) (by simp)
theorem redundantsR (fs : List F) (v : Value) (w : World) (hv : RdF w v fs) (hl : fs.length < 1099511627776) :
    Calls Tryd.prog 34 #[v] w fun e w' => ∃ v', e = .returned v' ∧ RdE encI w' v' (redI fs) ∧ Below w.heap.size w w' :=
  (redundants_any fs v w hv hl).mono fun _ _ ⟨v', he, ho, hb⟩ => ⟨v', he, RdE.of_owns ho (by have := redI_length fs; omega), hb⟩

theorem lit_call {fs : List F} {m : Nat} {o : Obj} (hm : m = fs.length) (hl : fs.length ≤ 1000) (ho : o = .cells (fs.flatMap cF).toArray 30) (w : World) :
    RdF (w.alloc o) (.slice (some ⟨w.heap.size, 0, none⟩) m m) fs ∧ Below w.heap.size w (w.alloc o) := by
  subst hm ho
  exact ⟨RdC.lit cF_length w fs _ hl (by decide), below_alloc _ _⟩

set_option maxHeartbeats 1000000 in
theorem awake10_any (w : World) (hT : Tab w) : Calls Tryd.prog 18 #[] w fun e w' => e = .returned (.bool true) ∧ Below w.heap.size w w' := by
  have LA := hid (fun (W : World) => lit_call (fs := exA) (m := 4) (o := .cells #[.int .u32 3, .int .u32 4, .int .u32 1, .int .u32 2, .int .u32 1, .int .u32 12, .int .u32 5, .int .u32 1] 30) rfl (by decide) rfl W)
  have LB := hid (fun (W : World) => lit_call (fs := exB) (m := 4) (o := .cells #[.int .u32 1, .int .u32 2, .int .u32 2, .int .u32 1, .int .u32 1, .int .u32 4, .int .u32 2, .int .u32 4] 30) rfl (by decide) rfl W)
  have LC := hid (fun (W : World) => lit_call (fs := exC) (m := 3) (o := .cells #[.int .u32 1, .int .u32 2, .int .u32 2, .int .u32 4, .int .u32 1, .int .u32 4] 30) rfl (by decide) rfl W)
  have C1 := hid (fun (v : Value) (W : World) (hb : Below w.heap.size w W) (h : RdF W v exA) => minimalR 4 exA v W (hT.below hb) h)
  have C2 := hid (fun (v : Value) (W : World) (hb : Below w.heap.size w W) (h : RdF W v exA) => canonicalR 4 exA v W (hT.below hb) h)
  have C3 := hid (fun (v : Value) (W : World) (hb : Below w.heap.size w W) (h : RdF W v exB) => minimalR 3 exB v W (hT.below hb) h)
  have C4 := hid (fun (v : Value) (W : World) (h : RdF W v exC) => redundantsR exC v W h (by decide))
  have e1 : resM 4 exA = [(1#32, 4#32), (1#32, 2#32), (1#32, 8#32)] := by unfold resM; rw [if_pos exA_valid, exA_min]
  have e2 : resM 3 exB = [(1#32, 2#32), (2#32, 1#32), (2#32, 4#32)] := by unfold resM; rw [if_pos exB_valid, exB_min]
  rw [e1, exA_valid] at C1
  rw [e1, exA_merge, exA_valid] at C2
  rw [e2, exB_valid] at C3
  rw [show redI exC = [2] from exC_red] at C4
  have E1 := hid (fun (W : World) (v : Value) (h : RdF W v [(1#32, 4#32), (1#32, 2#32), (1#32, 8#32)]) => equalF_lit [(1#32, 4#32), (1#32, 2#32), (1#32, 8#32)] v W (.cells #[.int .u32 1, .int .u32 4, .int .u32 1, .int .u32 2, .int .u32 1, .int .u32 8] 30) rfl 3 rfl (by decide) h)
  have E2 := hid (fun (W : World) (v : Value) (h : RdF W v [(1#32, 14#32)]) => equalF_lit [(1#32, 14#32)] v W (.cells #[.int .u32 1, .int .u32 14] 30) rfl 1 rfl (by decide) h)
  have E3 := hid (fun (W : World) (v : Value) (h : RdF W v [(1#32, 2#32), (2#32, 1#32), (2#32, 4#32)]) => equalF_lit [(1#32, 2#32), (2#32, 1#32), (2#32, 4#32)] v W (.cells #[.int .u32 1, .int .u32 2, .int .u32 2, .int .u32 1, .int .u32 2, .int .u32 4] 30) rfl 3 rfl (by decide) h)
  have E4 := hid (fun (W : World) (v : Value) (h : RdE encI W v [2]) => equalI_lit [2] v W (.cells #[.int .i64 2] 3) rfl 1 rfl (by decide) h)
  clear e1 e2
  go_enter Tryd.func18, Tryd.ntmps18
  go_wp2_with fail
  have B0 := hid (LA.out w).2
  refine (C1.out _ _ B0.out (LA.out w).1).mono ?_
  rintro e w1 ⟨v1, rfl, hr1, hb1⟩
  have R1 := hid hr1
  have B1 := hid (B0.out.trans (hb1.mono B0.out.size))
  clear hr1 hb1
  go_wp2_with fail
  have B1' := hid (B1.out.trans ((LA.out w1).2.mono B1.out.size))
  refine (C2.out _ _ B1'.out (LA.out w1).1).mono ?_
  rintro e w2 ⟨v2, rfl, hr2, hb2⟩
  have R2 := hid hr2
  have R1' := hid ((R1.out.below (LA.out w1).2).below hb2)
  have B2 := hid (B1'.out.trans (hb2.mono B1'.out.size))
  clear hr2 hb2
  go_wp2_with fail
  have B2' := hid (B2.out.trans ((LB.out w2).2.mono B2.out.size))
  refine (C3.out _ _ B2'.out (LB.out w2).1).mono ?_
  rintro e w3 ⟨v3, rfl, hr3, hb3⟩
  have R3 := hid hr3
  have R1'' := hid ((R1'.out.below (LB.out w2).2).below hb3)
  have R2' := hid ((R2.out.below (LB.out w2).2).below hb3)
  have B3 := hid (B2'.out.trans (hb3.mono B2'.out.size))
  clear hr3 hb3
  go_wp2_with fail
  have B3' := hid (B3.out.trans ((LC.out w3).2.mono B3.out.size))
  refine (C4.out _ _ (LC.out w3).1).mono ?_
  rintro e w4 ⟨v4, rfl, hr4, hb4⟩
  have R4 := hid hr4
  have Q1 := hid ((R1''.out.below (LC.out w3).2).below hb4)
  have Q2 := hid ((R2'.out.below (LC.out w3).2).below hb4)
  have Q3 := hid ((R3.out.below (LC.out w3).2).below hb4)
  have B4 := hid (B3'.out.trans (hb4.mono B3'.out.size))
  clear hr4 hb4
  go_wp2_with fail
  refine (E1.out _ v1 Q1.out).mono ?_
  rintro e w5 ⟨rfl, hb5⟩
  have S2 := hid (Q2.out.below hb5)
  have S3 := hid (Q3.out.below hb5)
  have S4 := hid (R4.out.below hb5)
  have B5 := hid (B4.out.trans (hb5.mono B4.out.size))
  clear hb5
  go_wp2_with fail
  refine (E2.out _ v2 S2.out).mono ?_
  rintro e w6 ⟨rfl, hb6⟩
  have T3 := hid (S3.out.below hb6)
  have T4 := hid (S4.out.below hb6)
  have B6 := hid (B5.out.trans (hb6.mono B5.out.size))
  clear hb6
  go_wp2_with fail
  refine (E3.out _ v3 T3.out).mono ?_
  rintro e w7 ⟨rfl, hb7⟩
  have U4 := hid (T4.out.below hb7)
  have B7 := hid (B6.out.trans (hb7.mono B6.out.size))
  clear hb7
  go_wp2_with fail
  refine (E4.out _ v4 U4.out).mono ?_
  rintro e w8 ⟨rfl, hb8⟩
  have B8 := hid (B7.out.trans (hb8.mono B7.out.size))
  clear hb8
  go_wp2_with fail
  go_ret
  exact ⟨rfl, B8.out⟩

end Go.Proofs.YtmlbmdcmedglaaaDoor
