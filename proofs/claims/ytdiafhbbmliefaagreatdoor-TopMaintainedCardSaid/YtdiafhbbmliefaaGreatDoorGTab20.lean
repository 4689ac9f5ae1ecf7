/- Texts that belong together, in one file. -/
import Derived.Test.YtdiafhbbmliefaaGreatDoorGTab14
import Derived.Test.YtdiafhbbmliefaaGreatDoorGTabB
import Derived.StillTailTactics
import Derived.Laws.StructEq
import Derived.IntWalk
/- The walks of Witness, of agree and of the reference. -/
namespace Go.Proofs.YtdiafhbbmliefaaGreatDoor
open Go.RowKit




theorem set3 {W : World} {b : Nat} {x y z x' y' z' : Value} (h0 : W.cell? ⟨b, 0, none⟩ = some x') (h1 : W.cell? ⟨b, 1, none⟩ = some y') (h2 : W.cell? ⟨b, 2, none⟩ = some z') {W3 : World} (hW : ((W.setCell ⟨b, 0, none⟩ x).setCell ⟨b, 1, none⟩ y).setCell ⟨b, 2, none⟩ z = W3) :
    W3.cell? ⟨b, 0, none⟩ = some x ∧ W3.cell? ⟨b, 1, none⟩ = some y ∧ W3.cell? ⟨b, 2, none⟩ = some z := by
  subst hW
  refine ⟨?_, ?_, ?_⟩
  · rw [World.cell?_setCell_other _ _ _ _ (by simp), World.cell?_setCell_other _ _ _ _ (by simp)]; exact World.cell?_setCell_same _ _ _ h0
  · rw [World.cell?_setCell_other _ _ _ _ (by simp)]; exact World.cell?_setCell_same _ _ _ ((World.cell?_setCell_other _ _ _ _ (by simp)).trans h1)
  · exact World.cell?_setCell_same _ _ _ ((World.cell?_setCell_other _ _ _ _ (by simp)).trans ((World.cell?_setCell_other _ _ _ _ (by simp)).trans h2))



end Go.Proofs.YtdiafhbbmliefaaGreatDoor


/- The walks of Find and Of, of the program and of the reference. -/
namespace Go.Proofs.YtdiafhbbmliefaaGreatDoor
open Go.RowKit

/-- The index of the first row with a number. -/
def fndFrom (k : Nat) : List Row3 → Int → Option Nat
  | [], _ => none
  | r :: rs, id => if r.1 == id then some k else fndFrom (k + 1) rs id
def fnd (rs : List Row3) (id : Int) : Option Nat := fndFrom 0 rs id
theorem fnd_at {rs : List Row3} {k : Nat} {r : Row3} (h : rs[k]? = some r) (id : Int) : fndFrom k (rs.drop k) id = if r.1 == id then some k else fndFrom (k + 1) (rs.drop (k + 1)) id := by rw [drop_at h]; rfl
theorem fndFrom_get : ∀ (rs : List Row3) (n : Nat) (id : Int) (k : Nat), fndFrom n rs id = some k → ∃ j r, k = n + j ∧ rs[j]? = some r ∧ r.1 = id := by
  intro rs
  induction rs with
  | nil => intro n id k h; cases h
  | cons r rs ih =>
    intro n id k h
    unfold fndFrom at h
    split at h
    · rename_i h1
      cases h
      exact ⟨0, r, rfl, rfl, by simpa using h1⟩
    · obtain ⟨j, q, rfl, hq, he⟩ := ih _ _ _ h
      exact ⟨j + 1, q, by omega, hq, he⟩
theorem fnd_get {rs : List Row3} {id : Int} {k : Nat} (h : fnd rs id = some k) : ∃ r, rs[k]? = some r ∧ r.1 = id := by
  obtain ⟨j, r, rfl, h1, h2⟩ := fndFrom_get rs 0 id k h
  exact ⟨r, by rwa [Nat.zero_add], h2⟩
def fndV : Option Nat → Value
  | none => .tuple #[.int .i64 0, .bool false]
  | some k => .tuple #[.int .i64 (k : Int), .bool true]
def fndI : Option Nat → Int
  | none => -1
  | some k => (k : Int)

theorem find1_any (i id : Int) (u : Value) (bi : Nat) (w : World) (hc : w.cell? ⟨bi, 0, none⟩ = some (.int .i64 id)) :
    Calls Tryz.prog 68 (#[.agg #[.int .i64 i, u]] ++ #[.pointer (some ⟨bi, 0, none⟩)]) w fun e w' => e = .returned (.bool (i == id)) ∧ Below w.heap.size w w' := by
  show Calls Tryz.prog 68 #[.agg #[.int .i64 i, u], .pointer (some ⟨bi, 0, none⟩)] w _
  have hb := below_alloc w (.cells #[.int .i64 i, u] 44)
  have hc' : (w.alloc (.cells #[.int .i64 i, u] 44)).cell? ⟨bi, 0, none⟩ = some (.int .i64 id) := (hb.cell (p := ⟨bi, 0, none⟩) (World.block_lt_of_cell? _ _ hc)).trans hc
  have hc0 : (w.alloc (.cells #[.int .i64 i, u] 44)).cell? ⟨w.heap.size, 0, none⟩ = some (.int .i64 i) := by simp
  have hlt := World.block_lt_of_cell? _ _ hc
  have hne : bi ≠ w.heap.size := fun e => by have : bi < w.heap.size := hlt; omega
  go_enter Tryz.func68, Tryz.ntmps68
  go_wp2
  go_ret
  exact ⟨rfl, hb⟩

set_option maxHeartbeats 800000 in
theorem indexRow_any (id : Int) (rs : List Row3) (v : Value) (bi : Nat) (w : World) (hr : RdR w v rs) (hc : w.cell? ⟨bi, 0, none⟩ = some (.int .i64 id))
    (eg : ∀ (args : Array Value) (w : World), (callFunc 68 args).run Tryz.prog w = .ok (.enter 68 args) w) :
    Calls Tryz.prog 67 #[v, .func (.func 68) #[] #[.pointer (some ⟨bi, 0, none⟩)]] w fun e w' => e = .returned (.int .i64 (fndI (fnd rs id))) ∧ Below w.heap.size w w' := by
  obtain ⟨ro, rcap, rfl, hrl, hrc⟩ := RdR.split hr
  have RC := hid hrc
  have hbi := World.block_lt_of_cell? _ _ hc
  have F1 := hid (fun (i : Int) (u : Value) (W : World) (h : Below w.heap.size w W) => find1_any i id u bi W ((h.cell (p := ⟨bi, 0, none⟩) hbi).trans hc))
  have FA := hid (fun (k : Nat) (r : Row3) (h : rs[k]? = some r) => fnd_at h id)
  obtain ⟨F, hF⟩ : ∃ F, fnd rs id = F := ⟨_, rfl⟩
  rw [hF]
  have FF := hid (show fndFrom 0 (rs.drop 0) id = F from hF)
  clear hr hrc hF hbi hc
  go_enter Tryz.func67, Tryz.ntmps67
  go_wp2_with fail
  go_loopw [8] (fun i wr => ∃ k : Nat, k ≤ rs.length ∧ i = .int .i64 k ∧ Hid (fndFrom k (rs.drop k) id = F) ∧ Below w.heap.size w wr) (fun i _ => rs.length - (intOf i).toNat)
  case atStart => exact ⟨0, Nat.zero_le _, rfl, FF, Below.refl _ _⟩
  case round =>
    obtain ⟨k, hk, rfl, H, hnx⟩ := hrel
    have hsz := hnx.size
    by_cases hlt : k < rs.length
    · obtain ⟨⟨rid, ru, rvs⟩, hr⟩ := get_some hlt
      obtain ⟨⟨b, off, rfl, hd⟩, hvs⟩ := RC.out k _ hr
      obtain ⟨e0, e1⟩ := hd wr hnx
      have H2 := hid ((FA.out k _ hr).symm.trans H.out)
      have C1 := hid (F1.out rid ru wr hnx)
      have NX := hid hnx
      clear hd hvs hr hnx H
      cases hq : (rid == id) with
      | true =>
        rw [hq] at C1
        rw [show ((rid, ru, rvs) : Row3).1 = rid from rfl, hq, if_pos rfl] at H2
        clear hq
        go_wp2_with (go_at_fn 68; refine C1.out.mono ?_; rintro e w2 ⟨rfl, hb2⟩)
        have B2 := hid (NX.out.trans (hb2.mono hsz))
        clear hb2
        go_ret
        exact ⟨by rw [← H2.out]; rfl, B2.out⟩
      | false =>
        rw [hq] at C1
        rw [show ((rid, ru, rvs) : Row3).1 = rid from rfl, hq, if_neg (by simp)] at H2
        clear hq
        go_wp2_with (go_at_fn 68; refine C1.out.mono ?_; rintro e w2 ⟨rfl, hb2⟩)
        have B2 := hid (NX.out.trans (hb2.mono hsz))
        clear hb2
        go_roundw
        case rel => exact ⟨k + 1, by omega, by go_num, H2, B2.out⟩
        case measure => simp [intOf]; omega
    · have H2 := hid (show none = F by have h := H.out; rw [List.drop_eq_nil_of_le (by omega)] at h; exact h)
      have NX := hid hnx
      clear hnx H
      go_wp2_with fail
      go_ret
      exact ⟨by rw [← H2.out]; rfl, NX.out⟩

set_option maxRecDepth 100000 in
theorem find_any (t : T3) (av rv : Value) (id : Int) (w : World) (ht : RdT w av rv t) :
    Calls Tryz.prog 28 #[.agg #[.string t.1, av, rv], .int .i64 id] w fun e w' => e = .returned (fndV (fnd t.2.2 id)) ∧ Below w.heap.size w w' := by
  have hb00 := below_alloc w (.cells #[.string t.1, av, rv] 48)
  have hb01 := below_alloc (w.alloc (.cells #[.string t.1, av, rv] 48)) (.cells #[.int .i64 id] 2)
  have hb0 := hb00.trans (hb01.mono hb00.size)
  obtain ⟨c0, c1, c2⟩ := cells3 (w := w) (a := .string t.1) (b := av) (c := rv) (t := 48) _ hb01
  have hid0 : ((w.alloc (.cells #[.string t.1, av, rv] 48)).alloc (.cells #[.int .i64 id] 2)).cell? ⟨w.heap.size + 1, 0, none⟩ = some (.int .i64 id) := by
    have : w.heap.size + 1 = (w.alloc (.cells #[.string t.1, av, rv] 48)).heap.size := by simp
    rw [this]; exact cell_new
  have T0 := hid (ht.below hb0)
  obtain ⟨w0, hw0⟩ : ∃ w0 : World, (w.alloc (.cells #[.string t.1, av, rv] 48)).alloc (.cells #[.int .i64 id] 2) = w0 := ⟨_, rfl⟩
  rw [hw0] at hb0 c0 c1 c2 T0 hid0
  have B0 := hid hb0
  have W0 := hid hw0
  have hsz0 := hb0.size
  have IX := hid (indexRow_any id t.2.2 rv (w.heap.size + 1) w0 T0.out.2 hid0 (enters _ _ _ Tryz.func68 (by kernel_rfl) rfl))
  obtain ⟨nm, ats, rs⟩ := t
  clear hb0 hw0 hb00 hb01
  obtain ⟨ro, rcap, rfl, -⟩ := RdR.split T0.out.2
  show Calls _ _ _ _ fun e w' => e = .returned (fndV (fnd rs id)) ∧ Below w.heap.size w w'
  replace IX := hid (show Calls _ _ _ _ fun e w' => e = .returned (.int .i64 (fndI (fnd rs id))) ∧ Below w0.heap.size w0 w' from IX.out)
  cases hF : fnd rs id with
  | none =>
    rw [hF] at IX
    replace IX := hid (show Calls _ _ _ _ fun e w' => e = .returned (.int .i64 (-1)) ∧ Below w0.heap.size w0 w' from IX.out)
    clear hF
    go_enter Tryz.func28, Tryz.ntmps28
    go_wp2_with fail
    rw [W0.out]
    go_wp2_with fail
    refine IX.out.mono ?_
    rintro e w2 ⟨rfl, hb2⟩
    have B2 := hid (B0.out.trans (hb2.mono hsz0))
    clear hb2
    go_wp2_with fail
    go_ret2
    exact ⟨rfl, B2.out⟩
  | some k =>
    rw [hF] at IX
    replace IX := hid (show Calls _ _ _ _ fun e w' => e = .returned (.int .i64 (k : Int)) ∧ Below w0.heap.size w0 w' from IX.out)
    have k0 : (0 : Int) ≤ (k : Int) := by omega
    have hkd : decide ((k : Int) ≥ 0) = true := by simp
    clear hF
    go_enter Tryz.func28, Tryz.ntmps28
    go_wp2_with fail
    rw [W0.out]
    go_wp2_with fail
    refine IX.out.mono ?_
    rintro e w2 ⟨rfl, hb2⟩
    have B2 := hid (B0.out.trans (hb2.mono hsz0))
    clear hb2
    go_wp2_with fail
    go_ret2
    exact ⟨by first | rfl | (simp [fndV]; omega), B2.out⟩





end Go.Proofs.YtdiafhbbmliefaaGreatDoor


/- Chapter 27's contracts in the words of the laws; the comparisons of lists of counts and of pairs; few. -/
namespace Go.Proofs.YtdiafhbbmliefaaGreatDoor
open Go.RowKit Go.Shelf Go.Lib

def setsL (t : T3) : List C2 := if tabE2 t = 0 then cntL (pairsS t.2.2) else []
theorem cntL_length (G : List S) : (cntL G).length ≤ G.length := by unfold cntL; rw [List.length_map]; exact ordS_length G
theorem pairs_bound {t : T3} (h : tabE2 t = 0) : (pairsS t.2.2).length ≤ 40000 := Nat.le_trans (pairsS_length _) (Nat.mul_le_mul (tabE2_ok h).2.1 (tabE2_ok h).2.1)
theorem setsL_length (t : T3) : (setsL t).length ≤ 40000 := by
  unfold setsL
  split
  · rename_i h; exact Nat.le_trans (cntL_length _) (pairs_bound h)
  · simp
theorem asetsR (t : T3) (av rv : Value) (w : World) (ht : RdT w av rv t) :
    Calls Tryz.prog 15 #[.agg #[.string t.1, av, rv]] w fun e w' => ∃ v', e = .returned (.tuple #[v', .int .i64 (tabE2 t)]) ∧ RdCt w' v' (setsL t) ∧ Below w.heap.size w w' := by
  have hl := setsL_length t
  unfold setsL at hl ⊢
  by_cases h : tabE2 t = 0
  · rw [if_pos h] at hl ⊢
    refine (asets_ok t av rv w ht h).mono fun e w' ⟨v', he, ho, hb⟩ => ⟨v', by rw [he, h], RdC.of_owns cC_length ho (by omega), hb⟩
  · rw [if_neg h]
    exact (asets_err t av rv w ht h).mono fun e w' ⟨he, hb⟩ => ⟨_, he, RdC.nil _ _, hb⟩

theorem run_neqC (x y : C2) (w : World) : (binOp .neq 95 (.agg #[.int .u32 (iv x.1), .int .i64 x.2]) (.agg #[.int .u32 (iv y.1), .int .i64 y.2])).run Tryz.prog w = .ok (.bool (!decide (x = y))) w := by
  have u3 := Tryz.underlying67
  have a3 := Tryz.isAgg67
  have z3 := Tryz.sizeOf67
  have u2 := Tryz.underlying2
  have a2 := Tryz.isAgg2
  have z2 := Tryz.sizeOf2
  have hS : Tryz.prog.underlying 95 = some (.struct (Tryz.prog.fieldsOf 95)) := by kernel_rfl
  have hp : Tryz.prog.stoodInHeld 95 = false := by kernel_rfl
  rw [run_neq_struct, show (10000 : Nat) = 9999 + 1 from rfl, run_equalIn_agg w 9999 95 _ _ hS hp]
  simp only [Program.fieldsOf, Tryz.underlying95]
  go_simp
  obtain ⟨x1, x2⟩ := x
  obtain ⟨y1, y2⟩ := y
  by_cases h1 : x1 = y1 <;> by_cases h2 : x2 = y2 <;> simp [h1, h2]

theorem RdCt.split {w : World} {v : Value} {xs : List C2} (h : RdCt w v xs) : ∃ ao cap, v = .slice ao xs.length cap ∧ xs.length ≤ 35184372088832 ∧
    ∀ (k : Nat) (x : C2), xs[k]? = some x → ∃ b off, ao = some ⟨b, off, none⟩ ∧ ∀ wr, Below w.heap.size w wr → wr.cell? ⟨b, off + k * 2, none⟩ = some (.int .u32 (iv x.1)) ∧ wr.cell? ⟨b, off + k * 2 + 1, none⟩ = some (.int .i64 x.2) := by
  obtain ⟨ao, cap, rfl, -, h2, h3⟩ := h
  refine ⟨ao, cap, rfl, h2, fun k f hf => ?_⟩
  obtain ⟨b, off, rfl, hb, hc⟩ := h3 (by have := (List.getElem?_eq_some_iff.1 hf).1; omega)
  exact ⟨b, off, rfl, fun wr hn => ⟨(hn.cell (p := ⟨b, off + k * 2, none⟩) hb).trans (hc _ _ (flat_at cC_length xs k f 0 _ hf rfl)), (hn.cell (p := ⟨b, off + k * 2 + 1, none⟩) hb).trans (hc _ _ (flat_at cC_length xs k f 1 _ hf rfl))⟩⟩
/-- Same over counts, of a list with itself. -/
theorem csame_any (xs : List C2) (v u : Value) (w : World) (hv : RdCt w v xs) (hu : RdCt w u xs) :
    Calls Tryz.prog 20 #[v, u] w fun e w' => e = .returned (.bool true) ∧ Below w.heap.size w w' := by
  obtain ⟨ao, cap, rfl, hl, hc⟩ := hv.split
  obtain ⟨bo, cbp, rfl, -, hd⟩ := hu.split
  have HC := hid hc
  have HD := hid hd
  have HQ := hid (fun (x : C2) (w : World) => run_neqC x x w)
  have hne : ((xs.length : Int) != (xs.length : Int)) = false := by simp
  clear hc hd hv hu
  go_enter Tryz.func20, Tryz.ntmps20
  go_wp2_with fail
  go_loopw [5] (fun i wr => ∃ k : Nat, k ≤ xs.length ∧ i = .int .i64 k ∧ Below w.heap.size w wr) (fun i _ => xs.length - (intOf i).toNat)
  case atStart => exact ⟨0, Nat.zero_le _, rfl, Below.refl _ _⟩
  case round =>
    obtain ⟨k, hk, rfl, hnx⟩ := hrel
    have NX := hid hnx
    by_cases hlt : k < xs.length
    · obtain ⟨x, hx⟩ := get_some hlt
      obtain ⟨b, off, rfl, h1⟩ := HC.out k x hx
      obtain ⟨b', off', rfl, h2⟩ := HD.out k x hx
      obtain ⟨e0, e1⟩ := h1 wr hnx
      obtain ⟨f0, f1⟩ := h2 wr hnx
      have hq : ∀ w, (binOp .neq 95 (.agg #[.int .u32 (iv x.1), .int .i64 x.2]) (.agg #[.int .u32 (iv x.1), .int .i64 x.2])).run Tryz.prog w = .ok (.bool false) w := fun w => by rw [HQ.out x w]; simp
      have k0 : (0 : Int) ≤ (k : Int) := by omega
      clear h1 h2 hx hnx
      go_wp2_with fail
      go_quiet (fail)
      go_wp2_with fail
      go_roundw
      case rel => exact ⟨k + 1, by omega, by go_num, below_drewN' NX.out _⟩
      case measure => simp [intOf]; omega
    · clear hnx
      go_wp2_with fail
      go_ret
      exact ⟨rfl, NX.out⟩
theorem ssame_any (xs : List S) (v u : Value) (w : World) (hv : RdE enc w v xs) (hu : RdE enc w u xs) :
    Calls Tryz.prog 18 #[v, u] w fun e w' => e = .returned (.bool true) ∧ Below w.heap.size w w' :=
  (same_any xs xs v u w hv hu).mono fun e w' ⟨he, q, hq⟩ => ⟨by rw [he]; simp, by rw [hq]; exact below_drewN _ _ _⟩
theorem ssame_lit (l : List S) (v : Value) (W : World) (o : Obj) (ho : o = .cells (l.map enc).toArray 67) (m : Nat) (hm : m = l.length) (hl : l.length ≤ 1000) (h : RdE enc W v l) :
    Calls Tryz.prog 18 #[v, .slice (some ⟨W.heap.size, 0, none⟩) m m] (W.alloc o) fun e w' => e = .returned (.bool true) ∧ Below W.heap.size W w' := by
  subst ho hm
  refine (ssame_any l v _ _ (h.below (below_alloc _ _)) (RdE.lit W l _ hl)).mono fun e w' ⟨he, hb⟩ => ⟨he, (below_alloc _ _).trans (hb.mono (below_alloc W _).size)⟩


end Go.Proofs.YtdiafhbbmliefaaGreatDoor


/- The example of chapter 27: the walk of its law package's awake. -/
namespace Go.Proofs.YtdiafhbbmliefaaGreatDoor
open Go.RowKit

theorem ord_lit {a b : List S} (h1 : b.Pairwise (fun x y => cmpS x y < 0)) (h2 : b.Perm a) : ordS a = b := (ordS_of (p := (· ∈ b)) ⟨h1, fun _ => Iff.rfl⟩ fun _ => h2.mem_iff).symm



end Go.Proofs.YtdiafhbbmliefaaGreatDoor


/- The laws of chapter 27 over tables: AgreeSets, AgreeMaximal, AgreeWitness, AgreeOf. -/
namespace Go.Proofs.YtdiafhbbmliefaaGreatDoor
open Go.RowKit







end Go.Proofs.YtdiafhbbmliefaaGreatDoor


/- Lists of counted sets: Holds and Closure, of agree and of the reference; slices.Clone. -/
namespace Go.Proofs.YtdiafhbbmliefaaGreatDoor
open Go.RowKit







end Go.Proofs.YtdiafhbbmliefaaGreatDoor

