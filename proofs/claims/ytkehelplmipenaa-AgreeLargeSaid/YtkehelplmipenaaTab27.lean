/- The reference's Values, Lists, Same, Agree (chapters 1 and 3). -/
import Derived.Test.YtkehelplmipenaaGTabB
import Derived.Deep.RegionHeld3
namespace Go.Proofs.Ytkehelplmipenaa
open Go.RowKit

theorem infoV : (Try.prog.info? 64).map (fun i => (i.zero, i.size, i.bytes)) = some (some (.agg #[.int .i64 0, .int .i64 0, .string (ByteArray.mk #[])]), 3, 32) := by kernel_rfl
theorem undVs : Try.prog.underlying 65 = some (.slice 64) := by kernel_rfl
theorem cells_newV (w : World) (x : V3) {t : TypeId} : ∀ j u, (cV x)[j]? = some u → (w.alloc (.cells #[.int .i64 x.1, .int .i64 x.2.1, .string x.2.2] t)).cell? (Addr.add ⟨w.heap.size, 0, none⟩ j) = some u := by
  intro j u hj
  have hj2 : j < 3 := (List.getElem?_eq_some_iff.1 hj).1
  rcases (show j = 0 ∨ j = 1 ∨ j = 2 by omega) with rfl | rfl | rfl
  · simp [cV] at hj; subst hj; simp [Addr.add]
  · simp [cV] at hj; subst hj; simp [Addr.add]
  · simp [cV] at hj; subst hj; simp [Addr.add]
/-- The values at the members of a set, of the first k. -/
def valTo (xs : List V3) (s : S) : Nat → List V3
  | 0 => []
  | k + 1 => if s.getLsbD k = true then valTo xs s k ++ [xs.getD k noV] else valTo xs s k
theorem valTo_at {xs : List V3} {k : Nat} {x : V3} (h : xs[k]? = some x) (s : S) : valTo xs s (k + 1) = if s.getLsbD k = true then valTo xs s k ++ [x] else valTo xs s k := by
  show (if s.getLsbD k = true then valTo xs s k ++ [xs.getD k noV] else valTo xs s k) = _
  simp [List.getD, h]
theorem valTo_length (xs : List V3) (s : S) (k : Nat) : (valTo xs s k).length ≤ k := by
  induction k with
  | zero => simp [valTo]
  | succ k ih => unfold valTo; split <;> (try simp) <;> omega
theorem valTo_same (xs ys : List V3) (s : S) (k : Nat) : (valTo xs s k).length = (valTo ys s k).length := by
  induction k with
  | zero => rfl
  | succ k ih => unfold valTo; split <;> simp [ih]
theorem mem_valTo {xs : List V3} {s : S} {x : V3} : ∀ {k : Nat}, k ≤ xs.length → x ∈ valTo xs s k → x ∈ xs := by
  intro k
  induction k with
  | zero => intro _ h; cases h
  | succ k ih =>
    intro hk h
    obtain ⟨y, hy⟩ := get_some (show k < xs.length by omega)
    rw [valTo_at hy] at h
    split at h
    · rcases List.mem_append.1 h with h | h
      · exact ih (by omega) h
      · rw [List.mem_singleton] at h; rw [h]; exact List.mem_of_getElem? hy
    · exact ih (by omega) h
/-- Two lists of values are equal. -/
def eqLs : List V3 → List V3 → Bool
  | x :: xs, y :: ys => eqV x y && eqLs xs ys
  | [], [] => true
  | _, _ => false
theorem eqLs_at {xs ys : List V3} {k : Nat} {x y : V3} (hx : xs[k]? = some x) (hy : ys[k]? = some y) : eqLs (xs.drop k) (ys.drop k) = (eqV x y && eqLs (xs.drop (k + 1)) (ys.drop (k + 1))) := by rw [drop_at hx, drop_at hy]; rfl
theorem eqLs_snoc : ∀ (xs ys : List V3) (x y : V3), xs.length = ys.length → eqLs (xs ++ [x]) (ys ++ [y]) = (eqLs xs ys && eqV x y) := by
  intro xs
  induction xs with
  | nil => intro ys x y h; cases ys with
    | nil => simp [eqLs]
    | cons b l => cases h
  | cons a xs ih => intro ys x y h; cases ys with
    | nil => cases h
    | cons b ys => simp only [List.cons_append, eqLs]; rw [ih ys x y (by simpa using h), Bool.and_assoc]

set_option maxHeartbeats 1600000 in
set_option maxRecDepth 100000 in
theorem rvalues_any (i : Int) (xs : List V3) (u : Value) (s : S) (w : World) (hu : RdV w u xs) (h32 : xs.length ≤ 32) :
    Calls Try.prog 73 #[.agg #[.int .i64 i, u], enc s] w fun e w' => ∃ v', e = .returned v' ∧ RdV w' v' (valTo xs s xs.length) ∧ Below w.heap.size w w' := by
  have hb1 := below_alloc w (.cells #[.int .i64 i, u] 67)
  have C1 := hid (fun W h => cells2 (w := w) (a := .int .i64 i) (b := u) (t := 67) W h)
  have U0 := hid (RdC.below hu hb1)
  obtain ⟨w1, hw1⟩ : ∃ w1 : World, w.alloc (.cells #[.int .i64 i, u] 67) = w1 := ⟨_, rfl⟩
  rw [hw1] at hb1 C1 U0
  have W1 := hid hw1
  have B1 := hid hb1
  have hs1 := hb1.size
  obtain ⟨uo, ucap, rfl, hul, huc⟩ := RdV.split U0.out
  have UC := hid huc
  have HS := hid (fun (k : Nat) (hk : k < 32) (W : World) => has_any s k hk W)
  have VT := hid (fun (k : Nat) (x : V3) (h : xs[k]? = some x) => valTo_at h s)
  have VL := hid (fun k => valTo_length xs s k)
  clear hb1 hw1 huc hu
  simp only [enc_eq] at HS ⊢
  go_enter Try.func73, Try.ntmps73
  go_wp2_with fail
  rw [W1.out]
  go_wp2_with fail
  go_loopw [5, 6] (fun o i wr => ∃ k : Nat, k ≤ xs.length ∧ i = .int .i64 k ∧ wr.ownsRow w1.heap.size 64 3 o (valTo xs s k).length ((valTo xs s k).flatMap cV) ∧ Below w1.heap.size w1 wr) (fun _ i _ => xs.length - (intOf i).toNat)
  case atStart => exact ⟨0, Nat.zero_le _, rfl, World.ownsRow_nil _ _ _ _, Below.refl _ _⟩
  case round =>
    obtain ⟨k, hk, rfl, hown, hnx⟩ := hrel
    have hsz := hnx.size
    obtain ⟨c0, c1⟩ := C1.out _ hnx
    have hvl := VL.out k
    by_cases hlt : k < xs.length
    · obtain ⟨x, hx⟩ := get_some hlt
      obtain ⟨b, off, rfl, hd⟩ := UC.out k x hx
      obtain ⟨e0, e1, e2⟩ := hd wr hnx
      have V1 := hid (VT.out k x hx)
      have H1 := hid (HS.out k (by omega) wr)
      have k0 : (0 : Int) ≤ (k : Int) := by omega
      generalize valTo xs s k = L at *
      clear hd hx
      cases hq : s.getLsbD k with
      | false =>
        rw [hq, if_neg (by simp)] at V1
        rw [hq] at H1
        have HO := hid hown
        have HN := hid hnx
        clear hq hown hnx
        go_wp2_with fail
        refine H1.out.mono ?_
        rintro e w' ⟨rfl, rfl⟩
        go_wp2_with fail
        go_roundw
        case rel => exact ⟨k + 1, by omega, by go_num, by rw [V1.out]; exact HO.out, HN.out⟩
        case measure => simp [intOf]; omega
      | true =>
        rw [hq, if_pos rfl] at V1
        rw [hq] at H1
        clear hq
        go_wp2_with fail
        refine H1.out.mono ?_
        rintro e w' ⟨rfl, rfl⟩
        go_wp2_with (at_builtin; refine wpList_pushC rfl _ _ 65 rfl w1.heap.size 64 (.agg #[.int .i64 0, .int .i64 0, .string (ByteArray.mk #[])]) 3 32 undVs infoV rfl (by decide) (by decide) cV cV_length cV_one _ L rfl (hown.alloc _) ⟨wr.heap.size, 0, none⟩ x rfl (cells_newV _ x) (by omega) (by simp; omega) ?_)
        intro v' w5 hown' hgrow
        have hb5 := hid (below_push hnx hsz hown hgrow)
        have HO5 := hid hown'
        clear hgrow hown hnx hown' e0 e1 e2 c0 c1
        go_wp2_with fail
        go_roundw
        case rel => exact ⟨k + 1, by omega, by go_num, by rw [V1.out]; simpa using HO5.out, hb5.out⟩
        case measure => simp [intOf]; omega
    · have hkn : k = xs.length := by omega
      subst hkn
      have R := hid (RdC.of_owns cV_length hown (by omega))
      have HN := hid (B1.out.trans (hnx.mono hs1))
      clear hown hnx
      go_wp2_with fail
      go_ret
      exact ⟨_, rfl, R.out, HN.out⟩

set_option maxHeartbeats 1600000 in
theorem lists_any (xs ys : List V3) (u v : Value) (w : World) (hu : RdV w u xs) (hv : RdV w v ys) (hl : ys.length = xs.length) (hs : ∀ x ∈ xs, x.2.2.size ≤ 200) :
    Calls Try.prog 95 #[u, v] w fun e w' => (∃ n : Int, e = .returned (.int .i64 n) ∧ decide (n = 0) = eqLs xs ys) ∧ Below w.heap.size w w' := by
  obtain ⟨uo, ucap, rfl, hul, huc⟩ := RdV.split hu
  obtain ⟨vo, vcap, rfl, hvl, hvc⟩ := RdV.split hv
  rw [hl]
  have UC := hid huc
  have VC := hid hvc
  have HS := hid hs
  have HL := hid hl
  have SG := hid (fun (W : World) => sign_any xs.length xs.length W)
  have CM := hid (fun (x y : V3) (W : World) (h : x.2.2.size ≤ 200) => cmpV_any x y W h)
  have CZ := hid (fun (x y : V3) => cmpV_zero x y)
  have EA := hid (fun (k : Nat) (x y : V3) (hx : xs[k]? = some x) (hy : ys[k]? = some y) => eqLs_at hx hy)
  clear huc hvc hs hl hu hv
  go_enter Try.func95, Try.ntmps95
  go_wp2_with fail
  go_loopw [5] (fun i wr => ∃ k : Nat, k ≤ xs.length ∧ i = .int .i64 k ∧ Hid (eqLs (xs.drop k) (ys.drop k) = eqLs xs ys) ∧ Below w.heap.size w wr) (fun i _ => xs.length - (intOf i).toNat)
  case atStart => exact ⟨0, Nat.zero_le _, rfl, hid rfl, Below.refl _ _⟩
  case round =>
    obtain ⟨k, hk, rfl, H, hnx⟩ := hrel
    have hsz := hnx.size
    have NX := hid hnx
    by_cases hlt : k < xs.length
    · obtain ⟨x, hx⟩ := get_some hlt
      obtain ⟨y, hy⟩ := get_some (show k < ys.length by have := HL.out; omega)
      obtain ⟨b, off, rfl, hd⟩ := UC.out k x hx
      obtain ⟨b', off', rfl, hd'⟩ := VC.out k y hy
      have H2 := hid ((EA.out k x y hx hy).symm.trans H.out)
      have C := hid (fun i : After wr => Calls.after i (CM.out x y i.world (HS.out x (List.mem_of_getElem? hx))))
      have e0 : ∀ i : After wr, i.world.cell? ⟨b, off + k * 3, none⟩ = some (.int .i64 x.1) := fun i => After.cell (hd wr hnx).1 i
      have e1 : ∀ i : After wr, i.world.cell? ⟨b, off + k * 3 + 1, none⟩ = some (.int .i64 x.2.1) := fun i => After.cell (hd wr hnx).2.1 i
      have e2 : ∀ i : After wr, i.world.cell? ⟨b, off + k * 3 + 2, none⟩ = some (.string x.2.2) := fun i => After.cell (hd wr hnx).2.2 i
      have f0 : ∀ i : After wr, i.world.cell? ⟨b', off' + k * 3, none⟩ = some (.int .i64 y.1) := fun i => After.cell (hd' wr hnx).1 i
      have f1 : ∀ i : After wr, i.world.cell? ⟨b', off' + k * 3 + 1, none⟩ = some (.int .i64 y.2.1) := fun i => After.cell (hd' wr hnx).2.1 i
      have f2 : ∀ i : After wr, i.world.cell? ⟨b', off' + k * 3 + 2, none⟩ = some (.string y.2.2) := fun i => After.cell (hd' wr hnx).2.2 i
      have k0 : (0 : Int) ≤ (k : Int) := by omega
      have EQ := CZ.out x y
      clear hd hd' hx hy hnx
      generalize cmpV x y = c at *
      cases hq : eqV x y with
      | true =>
        rw [hq, Bool.true_and] at H2
        rw [hq] at EQ
        have hc : (c != 0) = false := by simpa using EQ
        clear hq EQ
        go_wp2_with fail
        refine wp_region_after (by kernel_rfl) (by kernel_rfl) ?_
        repeat (any_goals (quiet_step (exact C.out _)))
        refine wpQuiet_nil ?_
        intro wq hbq
        have BQ := hid (NX.out.trans (hbq.mono hsz))
        clear hbq e0 e1 e2 f0 f1 f2 C
        go_wp2_with fail
        go_roundw
        case rel => exact ⟨k + 1, by omega, by go_num, H2, BQ.out⟩
        case measure => simp [intOf]; omega
      | false =>
        rw [hq, Bool.false_and] at H2
        rw [hq] at EQ
        have hc : (c != 0) = true := by simpa using EQ
        have EQ2 := hid EQ
        clear hq EQ
        go_wp2_with fail
        refine wp_region_after (by kernel_rfl) (by kernel_rfl) ?_
        repeat (any_goals (quiet_step (exact C.out _)))
        refine wpQuiet_nil ?_
        intro wq hbq
        have BQ := hid (NX.out.trans (hbq.mono hsz))
        clear hbq e0 e1 e2 f0 f1 f2 C
        go_wp2_with fail
        go_ret
        exact ⟨⟨c, rfl, by rw [EQ2.out, ← H2.out]⟩, BQ.out⟩
    · have H2 := hid (show true = eqLs xs ys by
        have h := H.out
        rw [List.drop_eq_nil_of_le (by omega), List.drop_eq_nil_of_le (by have := HL.out; omega)] at h
        exact h)
      clear hnx H
      go_wp2_with fail
      refine (SG.out _).mono ?_
      rintro e w2 ⟨rfl, rfl⟩
      go_wp2_with fail
      go_ret
      exact ⟨⟨_, rfl, by rw [← H2.out]; simp [sgI]⟩, NX.out⟩

theorem vsame_any (xs ys : List V3) (u v : Value) (w : World) (hu : RdV w u xs) (hv : RdV w v ys) (hl : ys.length = xs.length) (hs : ∀ x ∈ xs, x.2.2.size ≤ 200) :
    Calls Try.prog 72 #[u, v] w fun e w' => e = .returned (.bool (eqLs xs ys)) ∧ Below w.heap.size w w' := by
  have C := hid (lists_any xs ys u v w hu hv hl hs)
  obtain ⟨uo, ucap, rfl, -⟩ := RdV.split hu
  obtain ⟨vo, vcap, rfl, -⟩ := RdV.split hv
  clear hu hv hl hs
  go_enter Try.func72, Try.ntmps72
  go_wp2_with fail
  refine C.out.mono ?_
  rintro e w1 ⟨⟨n, rfl, hn⟩, hb1⟩
  have HN := hid hn
  have B1 := hid hb1
  clear hn hb1
  go_wp2_with fail
  go_ret
  exact ⟨ret_bool (by rw [← HN.out]; rfl), B1.out⟩

/-- Two rows agree on a set. -/
def agB (xs ys : List V3) (s : S) : Bool := eqLs (valTo xs s xs.length) (valTo ys s xs.length)
theorem agB_iff {xs ys : List V3} (s : S) : ∀ k, k ≤ xs.length → k ≤ ys.length → k ≤ 32 → (eqLs (valTo xs s k) (valTo ys s k) = true ↔ ∀ i, i < k → s.getLsbD i = true → (rowsS xs ys k).getLsbD i = true) := by
  intro k
  induction k with
  | zero => intro _ _ _; simp [valTo, eqLs]
  | succ k ih =>
    intro h1 h2 h3
    obtain ⟨x, hx⟩ := get_some (show k < xs.length by omega)
    obtain ⟨y, hy⟩ := get_some (show k < ys.length by omega)
    have ih' := ih (by omega) (by omega) (by omega)
    have hbit : ∀ i, i < k + 1 → (rowsS xs ys (k + 1)).getLsbD i = ((rowsS xs ys k).getLsbD i || (decide (i = k) && eqV x y)) := fun i hi => by
      rw [rowsS_at hx hy]
      cases hq : eqV x y with
      | false => rw [if_neg (by simp)]; simp
      | true => rw [if_pos rfl, BitVec.getLsbD_or, show (1#32 <<< k) = bit k from rfl, bit_get k i (by omega)]; simp
    rw [valTo_at hx, valTo_at hy]
    cases hs : s.getLsbD k with
    | false =>
      rw [if_neg (by simp), if_neg (by simp), ih']
      constructor
      · intro h i hi hb
        rcases Nat.lt_succ_iff_lt_or_eq.1 hi with hlt | rfl
        · rw [hbit i hi, h i hlt hb]; rfl
        · rw [hs] at hb; cases hb
      · intro h i hi hb
        have := h i (by omega) hb
        rw [hbit i (by omega)] at this
        simpa [show i ≠ k by omega] using this
    | true =>
      rw [if_pos rfl, if_pos rfl, eqLs_snoc _ _ _ _ (valTo_same _ _ _ _), Bool.and_eq_true, ih']
      constructor
      · rintro ⟨h, he⟩ i hi hb
        rcases Nat.lt_succ_iff_lt_or_eq.1 hi with hlt | rfl
        · rw [hbit i hi, h i hlt hb]; rfl
        · rw [hbit i hi, he]; simp
      · intro h
        refine ⟨fun i hi hb => ?_, ?_⟩
        · have := h i (by omega) hb
          rw [hbit i (by omega)] at this
          simpa [show i ≠ k by omega] using this
        · have := h k (by omega) hs
          rw [hbit k (by omega)] at this
          have hz : ∀ m, m ≤ k → (rowsS xs ys m).getLsbD k = false := by
            intro m
            induction m with
            | zero => intro _; simp [rowsS]
            | succ m ihm =>
              intro hm
              unfold rowsS
              split
              · rw [BitVec.getLsbD_or, ihm (by omega), show (1#32 <<< m) = bit m from rfl, bit_get m k (by omega)]
                simp; omega
              · exact ihm (by omega)
          rw [hz k (Nat.le_refl _)] at this
          simpa using this

end Go.Proofs.Ytkehelplmipenaa
