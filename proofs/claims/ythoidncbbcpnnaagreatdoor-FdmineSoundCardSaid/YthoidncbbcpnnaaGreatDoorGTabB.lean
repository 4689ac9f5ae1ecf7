/- Texts that belong together, in one file. -/
import Derived.Test.YthoidncbbcpnnaaGreatDoorGTabA
import Derived.Test.YthoidncbbcpnnaaGreatDoorGPlain
import Derived.Laws.StructEq
import Derived.Test.YthoidncbbcpnnaaGreatDoorAfter
/- The order of two values: the walks of drossref01's sign, strings and Compare. -/
namespace Go.Proofs.YthoidncbbcpnnaaGreatDoor
open Go.RowKit

theorem wrap64_byte {c : Nat} (h : c < 256) : wrap64 (c : Int) = (c : Int) := by unfold wrap64; omega
def sgI (a b : Int) : Int := if a < b then -1 else if b < a then 1 else 0
theorem sgI_zero (a b : Int) : sgI a b = 0 ↔ a = b := by
  unfold sgI
  split
  · omega
  · split <;> omega
theorem sign_any (a b : Int) (w : World) :
    Calls Tryz.prog 179 #[.int .i64 a, .int .i64 b] w fun e w' => e = .returned (.int .i64 (sgI a b)) ∧ w = w' := by
  by_cases h1 : a < b
  · rw [show sgI a b = -1 by unfold sgI; rw [if_pos h1]]
    go_enter Tryz.func179, Tryz.ntmps179
    go_wp2_with fail
    go_ret
    exact ⟨rfl, rfl⟩
  · by_cases h2 : b < a
    · rw [show sgI a b = 1 by unfold sgI; rw [if_neg h1, if_pos h2]]
      go_enter Tryz.func179, Tryz.ntmps179
      go_wp2_with fail
      go_ret
      exact ⟨rfl, rfl⟩
    · rw [show sgI a b = 0 by unfold sgI; rw [if_neg h1, if_neg h2]]
      go_enter Tryz.func179, Tryz.ntmps179
      go_wp2_with fail
      go_ret
      exact ⟨rfl, rfl⟩

def strI (a b : ByteArray) (k : Nat) : Nat → Int
  | 0 => sgI a.size b.size
  | n + 1 => if k < b.size then (if byteN a k = byteN b k then strI a b (k + 1) n else sgI (byteN a k) (byteN b k)) else sgI a.size b.size
theorem strI_zero (a b : ByteArray) : ∀ (n k : Nat), k + n = a.size → (strI a b k n = 0 ↔ a.size = b.size ∧ ∀ j, k ≤ j → j < a.size → byteN a j = byteN b j) := by
  intro n
  induction n with
  | zero =>
    intro k hk
    unfold strI
    rw [sgI_zero]
    constructor
    · intro h; exact ⟨by omega, fun j h1 h2 => by omega⟩
    · rintro ⟨h, -⟩; omega
  | succ n ih =>
    intro k hk
    unfold strI
    split
    · split
      · rename_i h1 h2
        rw [ih (k + 1) (by omega)]
        constructor
        · rintro ⟨h3, h4⟩
          refine ⟨h3, fun j h5 h6 => ?_⟩
          by_cases hj : j = k
          · subst hj; exact h2
          · exact h4 j (by omega) h6
        · rintro ⟨h3, h4⟩
          exact ⟨h3, fun j h5 h6 => h4 j (by omega) h6⟩
      · rename_i h1 h2
        rw [sgI_zero]
        constructor
        · intro h; exact absurd (by omega) h2
        · rintro ⟨-, h4⟩; exact absurd (h4 k (by omega) (by omega)) h2
    · rename_i h1
      rw [sgI_zero]
      constructor
      · intro h; omega
      · rintro ⟨h, -⟩; omega
theorem eqT_iff (a b : ByteArray) : eqT a b = true ↔ a.size = b.size ∧ ∀ j, j < a.size → byteN a j = byteN b j := by
  unfold eqT
  rw [beq_iff_eq, ByteArray.toList_eq, ByteArray.toList_eq]
  constructor
  · intro h
    have e : a = b := ByteArray.ext (Array.toList_inj.1 h)
    subst e
    exact ⟨rfl, fun _ _ => rfl⟩
  · rintro ⟨h1, h2⟩
    congr 1
    refine Array.ext h1 fun i hi hi' => ?_
    have h := h2 i hi
    unfold byteN at h
    rw [dif_pos (show i < a.size from hi), dif_pos (show i < b.size from hi')] at h
    exact UInt8.toNat_inj.1 h
theorem strI_eqT (a b : ByteArray) : decide (strI a b 0 a.size = 0) = eqT a b := by
  rw [Bool.eq_iff_iff, decide_eq_true_iff, strI_zero a b a.size 0 (by omega), eqT_iff]
  simp

theorem drewN_ex {w wr : World} (h : ∃ n, wr = w.drewN n) (q : Nat) : ∃ n, wr.drewN q = w.drewN n := by
  obtain ⟨n, rfl⟩ := h
  exact ⟨n + q, by simp [World.drewN, Nat.add_assoc]⟩
set_option maxRecDepth 100000 in
theorem strings_any (a b : ByteArray) (w : World) (ha : a.size ≤ 200) :
    Calls Tryz.prog 192 #[.string a, .string b] w fun e w' => e = .returned (.int .i64 (strI a b 0 a.size)) ∧ ∃ n, w' = w.drewN n := by
  have SG := hid (fun (a b : Int) (W : World) => sign_any a b W)
  have SQ := hid (fun (a b : Int) (W : World) (q x : Nat) => show Calls Tryz.prog 179 #[.int .i64 a, .int .i64 b] (W.drewN (q + x)) fun e w' => e = .returned (.int .i64 (sgI a b)) ∧ ∃ n, w' = W.drewN (q + n) from (sign_any a b _).mono fun _ _ h => ⟨h.1, x, h.2.symm⟩)
  have go : ∀ r : Int, strI a b 0 a.size = r → Calls Tryz.prog 192 #[.string a, .string b] w fun e w' => e = .returned (.int .i64 r) ∧ ∃ n, w' = w.drewN n := by
    intro r hr
    have R0 := hid hr
    clear hr
    go_enter Tryz.func192, Tryz.ntmps192
    go_wp2_with fail
    go_loopw [5] (fun i wr => ∃ k : Nat, k ≤ a.size ∧ i = .int .i64 k ∧ Hid (strI a b k (a.size - k) = r) ∧ Hid (∃ n, wr = w.drewN n)) (fun i _ => a.size - (intOf i).toNat)
    case atStart => exact ⟨0, Nat.zero_le _, rfl, R0, hid ⟨0, rfl⟩⟩
    case round =>
      obtain ⟨k, hk, rfl, H, HW⟩ := hrel
      have k0 : (0 : Int) ≤ (k : Int) := by omega
      by_cases hlt : k < a.size
      · have RR := hid (show (if k < b.size then (if byteN a k = byteN b k then strI a b (k + 1) (a.size - (k + 1)) else sgI (byteN a k) (byteN b k)) else sgI a.size b.size) = r by
          have h := H.out
          rw [show a.size - k = a.size - (k + 1) + 1 by omega] at h
          exact h)
        clear H
        by_cases hlt2 : k < b.size
        · have RS := hid (show (if byteN a k = byteN b k then strI a b (k + 1) (a.size - (k + 1)) else sgI (byteN a k) (byteN b k)) = r by
            have h := RR.out
            rw [if_pos hlt2] at h
            exact h)
          clear RR
          have hb1 := fun h : k < a.size => byteN_at h
          have hb2 := fun h : k < b.size => byteN_at h
          by_cases hq : byteN a k = byteN b k
          · have RF := hid (show strI a b (k + 1) (a.size - (k + 1)) = r by
              have h := RS.out
              rw [if_pos hq] at h
              exact h)
            clear RS
            have q1 : (((a[k]'hlt).toNat : Int) == ((b[k]'hlt2).toNat : Int)) = true := by rw [byteN_at, byteN_at, hq]; simp
            have q2 : (((a[k]'hlt).toNat : Int) != ((b[k]'hlt2).toNat : Int)) = false := by rw [byteN_at, byteN_at, hq]; simp
            have q3 : ((a[k]'hlt).toNat) = ((b[k]'hlt2).toNat) := by rw [byteN_at, byteN_at, hq]
            clear hq hb1 hb2
            go_wp2_with fail
            go_quiet (fail)
            go_wp2_with fail
            go_roundw
            case rel => exact ⟨k + 1, by omega, by go_num, RF, hid (drewN_ex HW.out _)⟩
            case measure => simp [intOf]; omega
          · have RF := hid (show sgI (byteN a k) (byteN b k) = r by
              have h := RS.out
              rw [if_neg hq] at h
              exact h)
            clear RS
            have q1 : (((a[k]'hlt).toNat : Int) == ((b[k]'hlt2).toNat : Int)) = false := by rw [byteN_at, byteN_at]; simp; omega
            have q2 : (((a[k]'hlt).toNat : Int) != ((b[k]'hlt2).toNat : Int)) = true := by rw [byteN_at, byteN_at]; simp; omega
            have q3 : ¬ ((a[k]'hlt).toNat) = ((b[k]'hlt2).toNat) := by rw [byteN_at, byteN_at]; exact hq
            have RW := hid (show sgI (wrap64 ((a[k]'hlt).toNat : Int)) (wrap64 ((b[k]'hlt2).toNat : Int)) = r by
              have l1 := byteN_lt a k
              have l2 := byteN_lt b k
              rw [byteN_at, byteN_at, wrap64_byte l1, wrap64_byte l2]
              exact RF.out)
            clear hq hb1 hb2
            go_wp2_with fail
            go_quiet (fail)
            go_wp2_with fail
            go_quiet ((go_at_call 179; refine (SQ.out _ _ _ _ _).mono ?_; exact fun _ _ h => h))
            go_wp2_with fail
            go_ret
            exact ⟨ret_int RW.out, by first | exact drewN_ex HW.out _ | exact drewN_ex (drewN_ex HW.out _) _⟩
        · have RF := hid (show sgI a.size b.size = r by
            have h := RR.out
            rw [if_neg hlt2] at h
            exact h)
          have S1 := hid (SG.out a.size b.size)
          clear RR
          go_wp2_with fail
          refine (S1.out _).mono ?_
          rintro e w' ⟨rfl, rfl⟩
          go_wp2_with fail
          go_ret
          exact ⟨ret_int RF.out, HW.out⟩
      · have RF := hid (show sgI a.size b.size = r by
          have h := H.out
          rw [show a.size - k = 0 by omega] at h
          exact h)
        have S1 := hid (SG.out a.size b.size)
        clear H
        go_wp2_with fail
        refine (S1.out _).mono ?_
        rintro e w' ⟨rfl, rfl⟩
        go_wp2_with fail
        go_ret
        exact ⟨ret_int RF.out, HW.out⟩
  exact go _ rfl

/-- The order of two values. -/
def cmpV (x y : V3) : Int := if sgI x.1 y.1 ≠ 0 then sgI x.1 y.1 else if sgI x.2.1 y.2.1 ≠ 0 then sgI x.2.1 y.2.1 else strI x.2.2 y.2.2 0 x.2.2.size
def eqV (x y : V3) : Bool := decide (x.1 = y.1) && decide (x.2.1 = y.2.1) && eqT x.2.2 y.2.2
theorem cmpV_zero (x y : V3) : decide (cmpV x y = 0) = eqV x y := by
  unfold cmpV eqV
  rw [← strI_eqT]
  by_cases h1 : x.1 = y.1
  · have e1 := (sgI_zero x.1 y.1).2 h1
    by_cases h2 : x.2.1 = y.2.1
    · have e2 := (sgI_zero x.2.1 y.2.1).2 h2
      rw [if_neg (fun h => h e1), if_neg (fun h => h e2), decide_eq_true h1, decide_eq_true h2]
      simp
    · have e2 : sgI x.2.1 y.2.1 ≠ 0 := fun e => h2 ((sgI_zero _ _).1 e)
      rw [if_neg (fun h => h e1), if_pos e2, decide_eq_false h2, decide_eq_false e2]
      simp
  · have e1 : sgI x.1 y.1 ≠ 0 := fun e => h1 ((sgI_zero _ _).1 e)
    rw [if_pos e1, decide_eq_false h1, decide_eq_false e1]
    simp

end Go.Proofs.YthoidncbbcpnnaaGreatDoor


/- The walks of drossref01.Compare, agree.set and drossref27.Rows. -/
namespace Go.Proofs.YthoidncbbcpnnaaGreatDoor
open Go.RowKit

theorem cmpV_any (x y : V3) (w : World) (hx : x.2.2.size ≤ 200) :
    Calls Tryz.prog 178 #[.agg #[.int .i64 x.1, .int .i64 x.2.1, .string x.2.2], .agg #[.int .i64 y.1, .int .i64 y.2.1, .string y.2.2]] w fun e w' => e = .returned (.int .i64 (cmpV x y)) ∧ Below w.heap.size w w' := by
  obtain ⟨k, n, s⟩ := x
  obtain ⟨k', n', s'⟩ := y
  have CV := hid (show cmpV (k, n, s) (k', n', s') = if sgI k k' ≠ 0 then sgI k k' else if sgI n n' ≠ 0 then sgI n n' else strI s s' 0 s.size from rfl)
  have go : ∀ r : Int, cmpV (k, n, s) (k', n', s') = r → Calls Tryz.prog 178 #[.agg #[.int .i64 k, .int .i64 n, .string s], .agg #[.int .i64 k', .int .i64 n', .string s']] w fun e w' => e = .returned (.int .i64 r) ∧ Below w.heap.size w w' := by
    intro r hr
    rw [hr] at CV
    clear hr
    have hb1 := below_alloc w (.cells #[.int .i64 k, .int .i64 n, .string s] 117)
    have C1 := hid (fun W h => cells3 (w := w) (a := .int .i64 k) (b := .int .i64 n) (c := .string s) (t := 117) W h)
    obtain ⟨w1, hw1⟩ : ∃ w1 : World, w.alloc (.cells #[.int .i64 k, .int .i64 n, .string s] 117) = w1 := ⟨_, rfl⟩
    rw [hw1] at hb1 C1
    have hs1 : w1.heap.size = w.heap.size + 1 := by rw [← hw1]; simp
    have hb2 := below_alloc w1 (.cells #[.int .i64 k', .int .i64 n', .string s'] 117)
    have C2 := hid (fun W h => cells3 (w := w1) (a := .int .i64 k') (b := .int .i64 n') (c := .string s') (t := 117) W h)
    obtain ⟨w2, hw2⟩ : ∃ w2 : World, w1.alloc (.cells #[.int .i64 k', .int .i64 n', .string s'] 117) = w2 := ⟨_, rfl⟩
    rw [hw2] at hb2 C2
    have B2 := hid (hb1.trans (hb2.mono hb1.size))
    obtain ⟨c0, c1, c2⟩ := C1.out w2 hb2
    obtain ⟨d0, d1, d2⟩ := C2.out w2 (Below.refl _ _)
    rw [hs1] at d0 d1 d2
    have WW := hid (show (w.alloc (.cells #[.int .i64 k, .int .i64 n, .string s] 117)).alloc (.cells #[.int .i64 k', .int .i64 n', .string s'] 117) = w2 by rw [hw1, hw2])
    have ST := hid (strings_any s s' w2 hx)
    have S1 := hid (sign_any k k' w2)
    have S2 := hid (sign_any n n' w2)
    clear hb1 hb2 C1 C2 hw1 hw2 hs1
    generalize sgI k k' = g1 at *
    generalize sgI n n' = g2 at *
    generalize strI s s' 0 s.size = g3 at *
    by_cases h1 : g1 = 0
    · subst h1
      by_cases h2 : g2 = 0
      · subst h2
        have RF := hid (show g3 = r by rw [CV.out, if_neg (fun h => h rfl), if_neg (fun h => h rfl)])
        clear CV
        go_enter Tryz.func178, Tryz.ntmps178
        go_wp2_with fail
        rw [WW.out]
        go_wp2_with fail
        refine S1.out.mono ?_
        rintro e w' ⟨rfl, rfl⟩
        go_wp2_with fail
        refine S2.out.mono ?_
        rintro e w' ⟨rfl, rfl⟩
        go_wp2_with fail
        refine ST.out.mono ?_
        rintro e w' ⟨rfl, q, rfl⟩
        go_wp2_with fail
        go_ret
        exact ⟨ret_int RF.out, below_drewN' B2.out _⟩
      · have RF := hid (show g2 = r by rw [CV.out, if_neg (fun h => h rfl), if_pos h2])
        have q1 : (g2 == 0) = false := by simpa using h2
        have q2 : (g2 != 0) = true := by simpa using h2
        clear CV
        go_enter Tryz.func178, Tryz.ntmps178
        go_wp2_with fail
        rw [WW.out]
        go_wp2_with fail
        refine S1.out.mono ?_
        rintro e w' ⟨rfl, rfl⟩
        go_wp2_with fail
        refine S2.out.mono ?_
        rintro e w' ⟨rfl, rfl⟩
        go_wp2_with fail
        go_ret
        exact ⟨ret_int RF.out, B2.out⟩
    · have RF := hid (show g1 = r by rw [CV.out, if_pos h1])
      have q1 : (g1 == 0) = false := by simpa using h1
      have q2 : (g1 != 0) = true := by simpa using h1
      clear CV
      go_enter Tryz.func178, Tryz.ntmps178
      go_wp2_with fail
      rw [WW.out]
      go_wp2_with fail
      refine S1.out.mono ?_
      rintro e w' ⟨rfl, rfl⟩
      go_wp2_with fail
      go_ret
      exact ⟨ret_int RF.out, B2.out⟩
  exact go _ rfl

end Go.Proofs.YthoidncbbcpnnaaGreatDoor


/- The agree set of two rows: the walks of agree.set and drossref27.Rows. -/
namespace Go.Proofs.YthoidncbbcpnnaaGreatDoor
open Go.RowKit Go.Shelf Go.Lib

theorem run_eqlV (x y : V3) (w : World) : (binOp .eql 117 (.agg #[.int .i64 x.1, .int .i64 x.2.1, .string x.2.2]) (.agg #[.int .i64 y.1, .int .i64 y.2.1, .string y.2.2])).run Tryz.prog w = .ok (.bool (eqV x y)) w := by
  have u1 := Tryz.underlying3
  have a1 := Tryz.isAgg3
  have z1 := Tryz.sizeOf3
  have u2 := Tryz.underlying2
  have a2 := Tryz.isAgg2
  have z2 := Tryz.sizeOf2
  have u3 := Tryz.underlying9
  have a3 := Tryz.isAgg9
  have z3 := Tryz.sizeOf9
  have hS : Tryz.prog.underlying 117 = some (.struct (Tryz.prog.fieldsOf 117)) := by kernel_rfl
  have hp : Tryz.prog.stoodInHeld 117 = false := by kernel_rfl
  rw [run_eql_struct, show (10000 : Nat) = 9999 + 1 from rfl, run_equalIn_agg w 9999 117 _ _ hS hp]
  simp only [Program.fieldsOf, Tryz.underlying117]
  go_simp
  obtain ⟨x1, x2, x3⟩ := x
  obtain ⟨y1, y2, y3⟩ := y
  unfold eqV eqT
  by_cases h1 : x1 = y1 <;> by_cases h2 : x2 = y2 <;> by_cases h3 : x3.toList = y3.toList <;> simp [h1, h2, h3]
def noV : V3 := (0, 0, ByteArray.mk #[])
/-- The first k attributes at which two rows agree. -/
def rowsS (xs ys : List V3) : Nat → S
  | 0 => 0#32
  | k + 1 => if eqV (xs.getD k noV) (ys.getD k noV) = true then rowsS xs ys k ||| 1#32 <<< k else rowsS xs ys k
theorem rowsS_at {xs ys : List V3} {k : Nat} {x y : V3} (hx : xs[k]? = some x) (hy : ys[k]? = some y) : rowsS xs ys (k + 1) = if eqV x y = true then rowsS xs ys k ||| 1#32 <<< k else rowsS xs ys k := by
  show (if eqV (xs.getD k noV) (ys.getD k noV) = true then _ else _) = _
  simp [List.getD, hx, hy]
theorem cells2 {w : World} {a b : Value} {t : TypeId} (W : World) (h : Below (w.alloc (.cells #[a, b] t)).heap.size (w.alloc (.cells #[a, b] t)) W) :
    W.cell? ⟨w.heap.size, 0, none⟩ = some a ∧ W.cell? ⟨w.heap.size, 1, none⟩ = some b :=
  ⟨(h.cell (p := ⟨w.heap.size, 0, none⟩) (by simp)).trans (by simp), (h.cell (p := ⟨w.heap.size, 1, none⟩) (by simp)).trans (by simp)⟩

set_option maxHeartbeats 1600000 in
theorem aset_any (i j : Int) (xs ys : List V3) (u v : Value) (w : World) (hu : RdV w u xs) (hv : RdV w v ys) (hl : ys.length = xs.length) (h32 : xs.length ≤ 32) :
    Calls Tryz.prog 171 #[.agg #[.int .i64 i, u], .agg #[.int .i64 j, v]] w fun e w' => e = .returned (.int .u32 (iv (rowsS xs ys xs.length))) ∧ Below w.heap.size w w' := by
  have hb1 := below_alloc w (.cells #[.int .i64 i, u] 90)
  have C1 := hid (fun W h => cells2 (w := w) (a := .int .i64 i) (b := u) (t := 90) W h)
  obtain ⟨w1, hw1⟩ : ∃ w1 : World, w.alloc (.cells #[.int .i64 i, u] 90) = w1 := ⟨_, rfl⟩
  rw [hw1] at hb1 C1
  have hs1 : w1.heap.size = w.heap.size + 1 := by rw [← hw1]; simp
  have hb2 := below_alloc w1 (.cells #[.int .i64 j, v] 90)
  have C2 := hid (fun W h => cells2 (w := w1) (a := .int .i64 j) (b := v) (t := 90) W h)
  obtain ⟨w2, hw2⟩ : ∃ w2 : World, w1.alloc (.cells #[.int .i64 j, v] 90) = w2 := ⟨_, rfl⟩
  rw [hw2] at hb2 C2
  have B2 := hid (hb1.trans (hb2.mono hb1.size))
  have CC := hid (fun (W : World) (h : Below w2.heap.size w2 W) => (⟨(C1.out W (hb2.trans (h.mono hb2.size))).2, by have := (C2.out W h).2; rwa [hs1] at this⟩ : W.cell? ⟨w.heap.size, 1, none⟩ = some u ∧ W.cell? ⟨w.heap.size + 1, 1, none⟩ = some v))
  have WW := hid (show (w.alloc (.cells #[.int .i64 i, u] 90)).alloc (.cells #[.int .i64 j, v] 90) = w2 by rw [hw1, hw2])
  have U := hid (RdC.below hu B2.out)
  have V := hid (RdC.below hv B2.out)
  clear hb1 hb2 C1 C2 hw1 hw2 hs1 hu hv
  obtain ⟨uo, ucap, rfl, hul, huc⟩ := RdV.split U.out
  obtain ⟨vo, vcap, rfl, hvl, hvc⟩ := RdV.split V.out
  have UC := hid huc
  have VC := hid hvc
  clear huc hvc
  obtain ⟨c1, d1⟩ := CC.out w2 (Below.refl _ _)
  rw [hl] at CC d1 V WW ⊢
  go_enter Tryz.func171, Tryz.ntmps171
  go_wp2_with fail
  rw [WW.out]
  go_wp2_with fail
  go_loopw [5, 11] (fun s i wr => ∃ k : Nat, k ≤ xs.length ∧ i = .int .i64 k ∧ s = .int .u32 (iv (rowsS xs ys k)) ∧ Below w2.heap.size w2 wr) (fun _ i _ => xs.length - (intOf i).toNat)
  case atStart => exact ⟨0, Nat.zero_le _, rfl, rfl, Below.refl _ _⟩
  case round =>
    obtain ⟨k, hk, rfl, rfl, hnx⟩ := hrel
    have hsz := hnx.size
    by_cases hlt : k < xs.length
    · obtain ⟨x, hx⟩ := get_some hlt
      obtain ⟨y, hy⟩ := get_some (show k < ys.length by omega)
      obtain ⟨b, off, rfl, hd⟩ := UC.out k x hx
      obtain ⟨b', off', rfl, hd'⟩ := VC.out k y hy
      have RS := hid (rowsS_at hx hy)
      have hba := below_alloc wr (.cells #[.int .i64 x.1, .int .i64 x.2.1, .string x.2.2] 117)
      have NX := hid (hnx.trans (hba.mono hsz))
      obtain ⟨e0, e1, e2⟩ := hd wr hnx
      obtain ⟨f0, f1, f2⟩ := hd' _ NX.out
      obtain ⟨c1', d1'⟩ := CC.out _ NX.out
      have k0 : (0 : Int) ≤ (k : Int) := by omega
      have k1 : k < 32 := by omega
      clear hd hd' hx hy hnx hba c1 d1
      have EQ := run_eqlV x y
      cases hq : eqV x y with
      | true =>
        rw [hq, if_pos rfl] at RS
        rw [hq] at EQ
        go_wp2_with fail
        go_quiet (fail)
        go_wp2_with fail
        go_roundw
        case rel => exact ⟨k + 1, by omega, by go_num, by rw [RS.out], below_drewN' NX.out _⟩
        case measure => simp [intOf]; omega
      | false =>
        rw [hq, if_neg (by simp)] at RS
        rw [hq] at EQ
        go_wp2_with fail
        go_quiet (fail)
        go_wp2_with fail
        go_roundw
        case rel => exact ⟨k + 1, by omega, by go_num, by rw [RS.out], below_drewN' NX.out _⟩
        case measure => simp [intOf]; omega
    · have hk2 : k = xs.length := by omega
      have HN := hid hnx
      clear hnx
      go_wp2_with fail
      go_ret
      exact ⟨by rw [hk2]; rfl, B2.out.trans (HN.out.mono B2.out.size)⟩

end Go.Proofs.YthoidncbbcpnnaaGreatDoor


/- The agree set of two rows by the reference: the walk of drossref27.Rows. -/
namespace Go.Proofs.YthoidncbbcpnnaaGreatDoor
open Go.RowKit


end Go.Proofs.YthoidncbbcpnnaaGreatDoor


/- What a valid table of chapter 27 holds; the agree sets of its pairs of rows. No program. -/
namespace Go.Proofs.YthoidncbbcpnnaaGreatDoor

theorem validV_size {x : V3} (h : validV x = true) : x.2.2.size ≤ 200 := by
  unfold validV at h
  simp only [empty_size] at h
  split at h
  · rw [Bool.and_eq_true, beq_iff_eq, beq_iff_eq] at h; omega
  · split at h
    · rw [beq_iff_eq] at h; omega
    · split at h
      · rw [Bool.and_eq_true, decide_eq_true_iff] at h; exact h.2
      · split at h
        · rw [Bool.and_eq_true, beq_iff_eq] at h; omega
        · exact absurd h (by simp)
theorem rowsE_ok : ∀ (rs : List Row3) (last : Int) (m : Nat), rowsE last m rs = 0 → ∀ r ∈ rs, r.2.2.length = m ∧ ∀ x ∈ r.2.2, x.2.2.size ≤ 200 := by
  intro rs
  induction rs with
  | nil => intro _ _ _ r hr; exact absurd hr (by simp)
  | cons q rs ih =>
    intro last m h r hr
    unfold rowsE at h
    split at h
    · exact absurd h (by decide)
    · split at h
      · exact absurd h (by decide)
      · rename_i h2
        split at h
        · exact absurd h (by decide)
        · rename_i h3
          rcases List.mem_cons.1 hr with rfl | hr
          · refine ⟨by omega, fun x hx => ?_⟩
            rw [Bool.not_eq_true, List.any_eq_false] at h3
            have h4 := h3 x hx
            unfold badV at h4
            exact validV_size (by simpa using h4)
          · exact ih _ _ h r hr
theorem tabE2_ok {t : T3} (h : tabE2 t = 0) : t.2.1.length ≤ 16 ∧ t.2.2.length ≤ 200 ∧ ∀ r ∈ t.2.2, r.2.2.length = t.2.1.length ∧ ∀ x ∈ r.2.2, x.2.2.size ≤ 200 := by
  unfold tabE2 at h
  split at h
  · rename_i h1; exact absurd h h1
  · rename_i h1
    split at h
    · exact absurd h (by decide)
    · rename_i h2
      have h3 : tabE t = 0 := by omega
      unfold tabE at h3
      split at h3
      · exact absurd h3 (by decide)
      · split at h3
        · exact absurd h3 (by decide)
        · rename_i h4
          split at h3
          · exact absurd h3 (by decide)
          · exact ⟨by omega, by omega, rowsE_ok _ _ _ h3⟩
/-- The agree sets of the pairs of rows, in the reference's order. -/
def pairsS : List Row3 → List S
  | [] => []
  | r :: rs => rs.map (fun q => rowsS r.2.2 q.2.2 r.2.2.length) ++ pairsS rs

end Go.Proofs.YthoidncbbcpnnaaGreatDoor

