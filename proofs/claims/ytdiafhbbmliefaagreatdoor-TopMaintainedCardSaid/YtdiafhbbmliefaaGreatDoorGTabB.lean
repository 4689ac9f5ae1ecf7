/- Texts that belong together, in one file. -/
import Derived.Test.YtdiafhbbmliefaaGreatDoorGTabA
import Derived.Test.YtdiafhbbmliefaaGreatDoorGPlain
import Derived.Laws.StructEq
import Derived.Test.YtdiafhbbmliefaaGreatDoorAfter
/- The order of two values: the walks of drossref01's sign, strings and Compare. -/
namespace Go.Proofs.YtdiafhbbmliefaaGreatDoor
open Go.RowKit




def eqV (x y : V3) : Bool := decide (x.1 = y.1) && decide (x.2.1 = y.2.1) && eqT x.2.2 y.2.2

end Go.Proofs.YtdiafhbbmliefaaGreatDoor


/- The walks of drossref01.Compare, agree.set and drossref27.Rows. -/
namespace Go.Proofs.YtdiafhbbmliefaaGreatDoor
open Go.RowKit


end Go.Proofs.YtdiafhbbmliefaaGreatDoor


/- The agree set of two rows: the walks of agree.set and drossref27.Rows. -/
namespace Go.Proofs.YtdiafhbbmliefaaGreatDoor
open Go.RowKit Go.Shelf Go.Lib

theorem run_eqlV (x y : V3) (w : World) : (binOp .eql 37 (.agg #[.int .i64 x.1, .int .i64 x.2.1, .string x.2.2]) (.agg #[.int .i64 y.1, .int .i64 y.2.1, .string y.2.2])).run Tryz.prog w = .ok (.bool (eqV x y)) w := by
  have u1 := Tryz.underlying3
  have a1 := Tryz.isAgg3
  have z1 := Tryz.sizeOf3
  have u2 := Tryz.underlying2
  have a2 := Tryz.isAgg2
  have z2 := Tryz.sizeOf2
  have u3 := Tryz.underlying9
  have a3 := Tryz.isAgg9
  have z3 := Tryz.sizeOf9
  have hS : Tryz.prog.underlying 37 = some (.struct (Tryz.prog.fieldsOf 37)) := by kernel_rfl
  have hp : Tryz.prog.stoodInHeld 37 = false := by kernel_rfl
  rw [run_eql_struct, show (10000 : Nat) = 9999 + 1 from rfl, run_equalIn_agg w 9999 37 _ _ hS hp]
  simp only [Program.fieldsOf, Tryz.underlying37]
  go_simp
  obtain ⟨x1, x2, x3⟩ := x
  obtain ⟨y1, y2, y3⟩ := y
  unfold eqV eqT
  by_cases h1 : x1 = y1 <;> by_cases h2 : x2 = y2 <;> by_cases h3 : x3.toList = y3.toList <;> simp [h1, h2, h3]
def noV : V3 := (0, 0, ByteArray.mk #[])
/-- The first k attributes at which two rows agree. -/
def rowsS (xs ys : List V3) : Nat → S
  | 0 => 0#32
  | k + 1 => if eqV (xs.getD k noV) (ys.getD k noV) = true then rowsS xs ys k ||| 1#32 <<< k else rowsS xs ys k
theorem rowsS_at {xs ys : List V3} {k : Nat} {x y : V3} (hx : xs[k]? = some x) (hy : ys[k]? = some y) : rowsS xs ys (k + 1) = if eqV x y = true then rowsS xs ys k ||| 1#32 <<< k else rowsS xs ys k := by
  show (if eqV (xs.getD k noV) (ys.getD k noV) = true then _ else _) = _
  simp [List.getD, hx, hy]
theorem cells2 {w : World} {a b : Value} {t : TypeId} (W : World) (h : Below (w.alloc (.cells #[a, b] t)).heap.size (w.alloc (.cells #[a, b] t)) W) :
    W.cell? ⟨w.heap.size, 0, none⟩ = some a ∧ W.cell? ⟨w.heap.size, 1, none⟩ = some b :=
  ⟨(h.cell (p := ⟨w.heap.size, 0, none⟩) (by simp)).trans (by simp), (h.cell (p := ⟨w.heap.size, 1, none⟩) (by simp)).trans (by simp)⟩

set_option maxHeartbeats 1600000 in
theorem aset_any (i j : Int) (xs ys : List V3) (u v : Value) (w : World) (hu : RdV w u xs) (hv : RdV w v ys) (hl : ys.length = xs.length) (h32 : xs.length ≤ 32) :
    Calls Tryz.prog 82 #[.agg #[.int .i64 i, u], .agg #[.int .i64 j, v]] w fun e w' => e = .returned (.int .u32 (iv (rowsS xs ys xs.length))) ∧ Below w.heap.size w w' := by
  have hb1 := below_alloc w (.cells #[.int .i64 i, u] 44)
  have C1 := hid (fun W h => cells2 (w := w) (a := .int .i64 i) (b := u) (t := 44) W h)
  obtain ⟨w1, hw1⟩ : ∃ w1 : World, w.alloc (.cells #[.int .i64 i, u] 44) = w1 := ⟨_, rfl⟩
  rw [hw1] at hb1 C1
  have hs1 : w1.heap.size = w.heap.size + 1 := by rw [← hw1]; simp
  have hb2 := below_alloc w1 (.cells #[.int .i64 j, v] 44)
  have C2 := hid (fun W h => cells2 (w := w1) (a := .int .i64 j) (b := v) (t := 44) W h)
  obtain ⟨w2, hw2⟩ : ∃ w2 : World, w1.alloc (.cells #[.int .i64 j, v] 44) = w2 := ⟨_, rfl⟩
  rw [hw2] at hb2 C2
  have B2 := hid (hb1.trans (hb2.mono hb1.size))
  have CC := hid (fun (W : World) (h : Below w2.heap.size w2 W) => (⟨(C1.out W (hb2.trans (h.mono hb2.size))).2, by have := (C2.out W h).2; rwa [hs1] at this⟩ : W.cell? ⟨w.heap.size, 1, none⟩ = some u ∧ W.cell? ⟨w.heap.size + 1, 1, none⟩ = some v))
  have WW := hid (show (w.alloc (.cells #[.int .i64 i, u] 44)).alloc (.cells #[.int .i64 j, v] 44) = w2 by rw [hw1, hw2])
  have U := hid (RdC.below hu B2.out)
  have V := hid (RdC.below hv B2.out)
  clear hb1 hb2 C1 C2 hw1 hw2 hs1 hu hv
  obtain ⟨uo, ucap, rfl, hul, huc⟩ := RdV.split U.out
  obtain ⟨vo, vcap, rfl, hvl, hvc⟩ := RdV.split V.out
  have UC := hid huc
  have VC := hid hvc
  clear huc hvc
  obtain ⟨c1, d1⟩ := CC.out w2 (Below.refl _ _)
  rw [hl] at CC d1 V WW ⊢
  go_enter Tryz.func82, Tryz.ntmps82
  go_wp2_with fail
  rw [WW.out]
  go_wp2_with fail
  go_loopw [5, 11] (fun s i wr => ∃ k : Nat, k ≤ xs.length ∧ i = .int .i64 k ∧ s = .int .u32 (iv (rowsS xs ys k)) ∧ Below w2.heap.size w2 wr) (fun _ i _ => xs.length - (intOf i).toNat)
  case atStart => exact ⟨0, Nat.zero_le _, rfl, rfl, Below.refl _ _⟩
  case round =>
    obtain ⟨k, hk, rfl, rfl, hnx⟩ := hrel
    have hsz := hnx.size
    by_cases hlt : k < xs.length
    · obtain ⟨x, hx⟩ := get_some hlt
      obtain ⟨y, hy⟩ := get_some (show k < ys.length by omega)
      obtain ⟨b, off, rfl, hd⟩ := UC.out k x hx
      obtain ⟨b', off', rfl, hd'⟩ := VC.out k y hy
      have RS := hid (rowsS_at hx hy)
      have hba := below_alloc wr (.cells #[.int .i64 x.1, .int .i64 x.2.1, .string x.2.2] 37)
      have NX := hid (hnx.trans (hba.mono hsz))
      obtain ⟨e0, e1, e2⟩ := hd wr hnx
      obtain ⟨f0, f1, f2⟩ := hd' _ NX.out
      obtain ⟨c1', d1'⟩ := CC.out _ NX.out
      have k0 : (0 : Int) ≤ (k : Int) := by omega
      have k1 : k < 32 := by omega
      clear hd hd' hx hy hnx hba c1 d1
      have EQ := run_eqlV x y
      cases hq : eqV x y with
      | true =>
        rw [hq, if_pos rfl] at RS
        rw [hq] at EQ
        go_wp2_with fail
        go_quiet (fail)
        go_wp2_with fail
        go_roundw
        case rel => exact ⟨k + 1, by omega, by go_num, by rw [RS.out], below_drewN' NX.out _⟩
        case measure => simp [intOf]; omega
      | false =>
        rw [hq, if_neg (by simp)] at RS
        rw [hq] at EQ
        go_wp2_with fail
        go_quiet (fail)
        go_wp2_with fail
        go_roundw
        case rel => exact ⟨k + 1, by omega, by go_num, by rw [RS.out], below_drewN' NX.out _⟩
        case measure => simp [intOf]; omega
    · have hk2 : k = xs.length := by omega
      have HN := hid hnx
      clear hnx
      go_wp2_with fail
      go_ret
      exact ⟨by rw [hk2]; rfl, B2.out.trans (HN.out.mono B2.out.size)⟩

end Go.Proofs.YtdiafhbbmliefaaGreatDoor


/- The agree set of two rows by the reference: the walk of drossref27.Rows. -/
namespace Go.Proofs.YtdiafhbbmliefaaGreatDoor
open Go.RowKit


end Go.Proofs.YtdiafhbbmliefaaGreatDoor


/- What a valid table of chapter 27 holds; the agree sets of its pairs of rows. No program. -/
namespace Go.Proofs.YtdiafhbbmliefaaGreatDoor

theorem validV_size {x : V3} (h : validV x = true) : x.2.2.size ≤ 200 := by
  unfold validV at h
  simp only [empty_size] at h
  split at h
  · rw [Bool.and_eq_true, beq_iff_eq, beq_iff_eq] at h; omega
  · split at h
    · rw [beq_iff_eq] at h; omega
    · split at h
      · rw [Bool.and_eq_true, decide_eq_true_iff] at h; exact h.2
      · split at h
        · rw [Bool.and_eq_true, beq_iff_eq] at h; omega
        · exact absurd h (by simp)
theorem rowsE_ok : ∀ (rs : List Row3) (last : Int) (m : Nat), rowsE last m rs = 0 → ∀ r ∈ rs, r.2.2.length = m ∧ ∀ x ∈ r.2.2, x.2.2.size ≤ 200 := by
  intro rs
  induction rs with
  | nil => intro _ _ _ r hr; exact absurd hr (by simp)
  | cons q rs ih =>
    intro last m h r hr
    unfold rowsE at h
    split at h
    · exact absurd h (by decide)
    · split at h
      · exact absurd h (by decide)
      · rename_i h2
        split at h
        · exact absurd h (by decide)
        · rename_i h3
          rcases List.mem_cons.1 hr with rfl | hr
          · refine ⟨by omega, fun x hx => ?_⟩
            rw [Bool.not_eq_true, List.any_eq_false] at h3
            have h4 := h3 x hx
            unfold badV at h4
            exact validV_size (by simpa using h4)
          · exact ih _ _ h r hr
theorem tabE2_ok {t : T3} (h : tabE2 t = 0) : t.2.1.length ≤ 16 ∧ t.2.2.length ≤ 200 ∧ ∀ r ∈ t.2.2, r.2.2.length = t.2.1.length ∧ ∀ x ∈ r.2.2, x.2.2.size ≤ 200 := by
  unfold tabE2 at h
  split at h
  · rename_i h1; exact absurd h h1
  · rename_i h1
    split at h
    · exact absurd h (by decide)
    · rename_i h2
      have h3 : tabE t = 0 := by omega
      unfold tabE at h3
      split at h3
      · exact absurd h3 (by decide)
      · split at h3
        · exact absurd h3 (by decide)
        · rename_i h4
          split at h3
          · exact absurd h3 (by decide)
          · exact ⟨by omega, by omega, rowsE_ok _ _ _ h3⟩
/-- The agree sets of the pairs of rows, in the reference's order. -/
def pairsS : List Row3 → List S
  | [] => []
  | r :: rs => rs.map (fun q => rowsS r.2.2 q.2.2 r.2.2.length) ++ pairsS rs

end Go.Proofs.YtdiafhbbmliefaaGreatDoor

