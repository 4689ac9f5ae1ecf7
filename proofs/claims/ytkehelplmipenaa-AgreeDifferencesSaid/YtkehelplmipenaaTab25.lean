/- Lists of counted sets: Holds and Closure, of agree and of the reference; slices.Clone. -/
import Derived.Test.YtkehelplmipenaaTab24
namespace Go.Proofs.Ytkehelplmipenaa
open Go.RowKit

def holdsB (l : List C2) (f : F) : Bool := !l.any fun c => (c.1 &&& f.1 == f.1) && (c.1 &&& f.2 != f.2)
def closC (full s : S) (l : List C2) : S := l.foldl (fun out c => if c.1 &&& s == s then out &&& c.1 else out) full
theorem closC_next {full s : S} {l : List C2} {k : Nat} {x : C2} (h : l[k]? = some x) : closC full s (l.take (k + 1)) = if x.1 &&& s == s then closC full s (l.take k) &&& x.1 else closC full s (l.take k) := by
  unfold closC; rw [take_next h, List.foldl_append]; rfl
theorem sub_eq (c a : S) : (a &&& ~~~ c == 0#32) = (c &&& a == a) := by
  rw [Bool.eq_iff_iff, beq_iff_eq, beq_iff_eq, andNot_zero_iff, BitVec.and_comm, and_self_iff]
theorem sub_ne (c a : S) : (a &&& ~~~ c != 0#32) = (c &&& a != a) := by unfold bne; rw [sub_eq]

set_option maxHeartbeats 800000 in
set_option maxRecDepth 100000 in
theorem aholds_any (l : List C2) (f : F) (v : Value) (w : World) (hv : RdCt w v l) :
    Calls Try.prog 32 #[v, .agg #[.int .u32 (iv f.1), .int .u32 (iv f.2)]] w fun e w' => e = .returned (.bool (holdsB l f)) ∧ Below w.heap.size w w' := by
  have hb0 := below_alloc w (.cells #[.int .u32 (iv f.1), .int .u32 (iv f.2)] 58)
  have C2' := hid (fun W h => cells2 (w := w) (a := .int .u32 (iv f.1)) (b := .int .u32 (iv f.2)) (t := 58) W h)
  obtain ⟨lo, lcap, rfl, hll, hlc⟩ := RdCt.split (RdC.below hv hb0)
  obtain ⟨w0, hw0⟩ : ∃ w0 : World, w.alloc (.cells #[.int .u32 (iv f.1), .int .u32 (iv f.2)] 58) = w0 := ⟨_, rfl⟩
  rw [hw0] at hb0 C2' hlc
  have B0 := hid hb0
  have W0 := hid hw0
  have hsz0 := hb0.size
  have LC := hid hlc
  clear hb0 hw0 hlc hv
  go_enter Try.func32, Try.ntmps32
  go_wp2_with fail
  rw [W0.out]
  go_wp2_with fail
  go_loopw [9] (fun i wr => ∃ k : Nat, k ≤ l.length ∧ i = .int .i64 k ∧ Hid ((l.take k).any (fun c => (c.1 &&& f.1 == f.1) && (c.1 &&& f.2 != f.2)) = false) ∧ Below w0.heap.size w0 wr) (fun i _ => l.length - (intOf i).toNat)
  case atStart => exact ⟨0, Nat.zero_le _, rfl, hid rfl, Below.refl _ _⟩
  case round =>
    obtain ⟨k, hk, rfl, H, hnx⟩ := hrel
    have hsz := hnx.size
    have NX := hid hnx
    by_cases hlt : k < l.length
    · obtain ⟨x, hx⟩ := get_some hlt
      obtain ⟨b, off, rfl, h1⟩ := LC.out k x hx
      obtain ⟨e0, e1⟩ := h1 wr hnx
      have hba := below_alloc wr (.cells #[.int .u32 (iv x.1), .int .i64 x.2] 35)
      have NX2 := hid (hnx.trans (hba.mono hsz))
      obtain ⟨c0, c1⟩ := C2'.out _ NX2.out
      have X := hid hx
      have BF := hid (B0.out.trans (NX2.out.mono hsz0))
      clear h1 hx hnx hba
      cases hq1 : (x.1 &&& f.1 == f.1) with
      | false =>
        have P := hid (show ((x.1 &&& f.1 == f.1) && (x.1 &&& f.2 != f.2)) = false by rw [hq1]; rfl)
        go_wp2_with fail
        go_roundw
        case rel => exact ⟨k + 1, by omega, by go_num, hid (none_next (p := fun c : C2 => (c.1 &&& f.1 == f.1) && (c.1 &&& f.2 != f.2)) X.out P.out H.out), NX2.out⟩
        case measure => simp [intOf]; omega
      | true =>
        cases hq2 : (x.1 &&& f.2 != f.2) with
        | false =>
          have P := hid (show ((x.1 &&& f.1 == f.1) && (x.1 &&& f.2 != f.2)) = false by rw [hq1, hq2]; rfl)
          go_wp2_with fail
          go_roundw
          case rel => exact ⟨k + 1, by omega, by go_num, hid (none_next (p := fun c : C2 => (c.1 &&& f.1 == f.1) && (c.1 &&& f.2 != f.2)) X.out P.out H.out), NX2.out⟩
          case measure => simp [intOf]; omega
        | true =>
          have P := hid (show ((x.1 &&& f.1 == f.1) && (x.1 &&& f.2 != f.2)) = true by rw [hq1, hq2]; rfl)
          go_wp2_with fail
          go_ret
          exact ⟨ret_bool (by unfold holdsB; rw [any_hit (p := fun c : C2 => (c.1 &&& f.1 == f.1) && (c.1 &&& f.2 != f.2)) X.out P.out]; rfl), BF.out⟩
    · have E := hid (any_end H.out hlt)
      clear hnx
      go_wp2_with fail
      go_ret
      exact ⟨ret_bool (by unfold holdsB; rw [E.out]; rfl), B0.out.trans (NX.out.mono hsz0)⟩

set_option maxHeartbeats 800000 in
set_option maxRecDepth 100000 in
theorem rholds_any (l : List C2) (f : F) (v : Value) (w : World) (hv : RdCt w v l) :
    Calls Try.prog 33 #[v, .agg #[.int .u32 (iv f.1), .int .u32 (iv f.2)]] w fun e w' => e = .returned (.bool (holdsB l f)) ∧ Below w.heap.size w w' := by
  have hb0 := below_alloc w (.cells #[.int .u32 (iv f.1), .int .u32 (iv f.2)] 58)
  have C2' := hid (fun W h => cells2 (w := w) (a := .int .u32 (iv f.1)) (b := .int .u32 (iv f.2)) (t := 58) W h)
  obtain ⟨lo, lcap, rfl, hll, hlc⟩ := RdCt.split (RdC.below hv hb0)
  obtain ⟨w0, hw0⟩ : ∃ w0 : World, w.alloc (.cells #[.int .u32 (iv f.1), .int .u32 (iv f.2)] 58) = w0 := ⟨_, rfl⟩
  rw [hw0] at hb0 C2' hlc
  have B0 := hid hb0
  have W0 := hid hw0
  have hsz0 := hb0.size
  have LC := hid hlc
  clear hb0 hw0 hlc hv
  go_enter Try.func33, Try.ntmps33
  go_wp2_with fail
  rw [W0.out]
  go_wp2_with fail
  go_loopw [5] (fun i wr => ∃ k : Nat, k ≤ l.length ∧ i = .int .i64 k ∧ Hid ((l.take k).any (fun c => (c.1 &&& f.1 == f.1) && (c.1 &&& f.2 != f.2)) = false) ∧ Below w0.heap.size w0 wr) (fun i _ => l.length - (intOf i).toNat)
  case atStart => exact ⟨0, Nat.zero_le _, rfl, hid rfl, Below.refl _ _⟩
  case round =>
    obtain ⟨k, hk, rfl, H, hnx⟩ := hrel
    have hsz := hnx.size
    have NX := hid hnx
    by_cases hlt : k < l.length
    · obtain ⟨x, hx⟩ := get_some hlt
      obtain ⟨b, off, rfl, h1⟩ := LC.out k x hx
      obtain ⟨e0, e1⟩ := h1 wr hnx
      obtain ⟨c0, c1⟩ := C2'.out _ hnx
      have X := hid hx
      have k0 : (0 : Int) ≤ (k : Int) := by omega
      have BF := hid (B0.out.trans (hnx.mono hsz0))
      have Q1 := sub_eq x.1 f.1
      have Q2 := sub_ne x.1 f.2
      clear h1 hx hnx
      cases hq1 : (x.1 &&& f.1 == f.1) with
      | false =>
        rw [hq1] at Q1
        have P := hid (show ((x.1 &&& f.1 == f.1) && (x.1 &&& f.2 != f.2)) = false by rw [hq1]; rfl)
        clear hq1 Q2
        go_wp2_with fail
        go_quiet (fail)
        go_wp2_with fail
        go_roundw
        case rel => exact ⟨k + 1, by omega, by go_num, hid (none_next (p := fun c : C2 => (c.1 &&& f.1 == f.1) && (c.1 &&& f.2 != f.2)) X.out P.out H.out), below_drewN' NX.out _⟩
        case measure => simp [intOf]; omega
      | true =>
        rw [hq1] at Q1
        cases hq2 : (x.1 &&& f.2 != f.2) with
        | false =>
          rw [hq2] at Q2
          have P := hid (show ((x.1 &&& f.1 == f.1) && (x.1 &&& f.2 != f.2)) = false by rw [hq1, hq2]; rfl)
          clear hq1 hq2
          go_wp2_with fail
          go_quiet (fail)
          go_wp2_with fail
          go_roundw
          case rel => exact ⟨k + 1, by omega, by go_num, hid (none_next (p := fun c : C2 => (c.1 &&& f.1 == f.1) && (c.1 &&& f.2 != f.2)) X.out P.out H.out), below_drewN' NX.out _⟩
          case measure => simp [intOf]; omega
        | true =>
          rw [hq2] at Q2
          have P := hid (show ((x.1 &&& f.1 == f.1) && (x.1 &&& f.2 != f.2)) = true by rw [hq1, hq2]; rfl)
          clear hq1 hq2
          go_wp2_with fail
          go_quiet (fail)
          go_wp2_with fail
          go_ret
          exact ⟨ret_bool (by unfold holdsB; rw [any_hit (p := fun c : C2 => (c.1 &&& f.1 == f.1) && (c.1 &&& f.2 != f.2)) X.out P.out]; rfl), below_drewN' BF.out _⟩
    · have E := hid (any_end H.out hlt)
      clear hnx
      go_wp2_with fail
      go_ret
      exact ⟨ret_bool (by unfold holdsB; rw [E.out]; rfl), B0.out.trans (NX.out.mono hsz0)⟩

set_option maxHeartbeats 800000 in
theorem aclos_any (l : List C2) (m : Nat) (hm : m ≤ 16) (s : S) (v : Value) (w : World) (hv : RdCt w v l) :
    Calls Try.prog 34 #[v, .int .i64 (m : Int), .int .u32 (iv s)] w fun e w' => e = .returned (.int .u32 (iv (closC (fullN m) s l))) ∧ Below w.heap.size w w' := by
  obtain ⟨lo, lcap, rfl, hll, hlc⟩ := RdCt.split hv
  have LC := hid hlc
  have SH := hid (shl_fullA hm)
  have m0 : (0 : Int) ≤ (m : Int) := by omega
  have FE := hid (show closC (fullN m) s ([] : List C2) = 1#32 <<< m - 1#32 from SH.out.symm)
  have FL := hid (show closC (fullN m) s l = closC (fullN m) s l from rfl)
  have NXT := hid (fun (k : Nat) (x : C2) (h : l[k]? = some x) => closC_next (full := fullN m) (s := s) h)
  generalize fullN m = fu at *
  clear hlc hv
  go_enter Try.func34, Try.ntmps34
  go_wp2_with fail
  go_loopw [7, 15] (fun o i wr => ∃ k : Nat, k ≤ l.length ∧ i = .int .i64 k ∧ o = .int .u32 (iv (closC fu s (l.take k))) ∧ Below w.heap.size w wr) (fun _ i _ => l.length - (intOf i).toNat)
  case atStart => exact ⟨0, Nat.zero_le _, rfl, by rw [List.take_zero, FE.out], Below.refl _ _⟩
  case round =>
    obtain ⟨k, hk, rfl, rfl, hnx⟩ := hrel
    have hsz := hnx.size
    have NX := hid hnx
    by_cases hlt : k < l.length
    · obtain ⟨x, hx⟩ := get_some hlt
      obtain ⟨b, off, rfl, h1⟩ := LC.out k x hx
      obtain ⟨e0, e1⟩ := h1 wr hnx
      have NX2 := hid (hnx.trans ((below_alloc wr (.cells #[.int .u32 (iv x.1), .int .i64 x.2] 35)).mono hsz))
      have N1 := hid (NXT.out k x hx)
      generalize closC fu s (l.take k) = o at *
      clear h1 hx hnx
      cases hq1 : (x.1 &&& s == s) with
      | false =>
        rw [hq1] at N1
        go_wp2_with fail
        go_roundw
        case rel => exact ⟨k + 1, by omega, by go_num, by rw [N1.out]; rfl, NX2.out⟩
        case measure => simp [intOf]; omega
      | true =>
        rw [hq1] at N1
        go_wp2_with fail
        go_roundw
        case rel => exact ⟨k + 1, by omega, by go_num, by rw [N1.out]; simp, NX2.out⟩
        case measure => simp [intOf]; omega
    · rw [take_all hlt]
      clear hnx
      go_wp2_with fail
      go_ret
      exact ⟨rfl, NX.out⟩

set_option maxHeartbeats 800000 in
theorem rclos_any (l : List C2) (m : Nat) (hm : m ≤ 16) (s : S) (v : Value) (w : World) (hv : RdCt w v l) :
    Calls Try.prog 35 #[v, .int .i64 (m : Int), .int .u32 (iv s)] w fun e w' => e = .returned (.int .u32 (iv (closC (fullN m) s l))) ∧ Below w.heap.size w w' := by
  obtain ⟨lo, lcap, rfl, hll, hlc⟩ := RdCt.split hv
  have LC := hid hlc
  have FU := hid (full_any (m : Int))
  rw [show min (m : Int).toNat 32 = m by omega] at FU
  simp only [enc_eq] at FU
  have FE := hid (show closC (fullN m) s ([] : List C2) = fullN m from rfl)
  have NXT := hid (fun (k : Nat) (x : C2) (h : l[k]? = some x) => closC_next (full := fullN m) (s := s) h)
  generalize fullN m = fu at *
  clear hlc hv
  go_enter Try.func35, Try.ntmps35
  go_wp2_with fail
  refine (FU.out _).mono ?_
  rintro e w1 ⟨rfl, rfl⟩
  go_wp2_with fail
  go_loop [7, 8] (fun o i => ∃ k : Nat, k ≤ l.length ∧ i = .int .i64 k ∧ o = .int .u32 (iv (closC fu s (l.take k)))) (fun _ i => l.length - (intOf i).toNat)
  case atStart => exact ⟨0, Nat.zero_le _, rfl, by rw [List.take_zero, FE.out]⟩
  case round =>
    obtain ⟨k, hk, rfl, rfl⟩ := hrel
    by_cases hlt : k < l.length
    · obtain ⟨x, hx⟩ := get_some hlt
      obtain ⟨b, off, rfl, h1⟩ := LC.out k x hx
      obtain ⟨e0, e1⟩ := h1 _ (Below.refl _ _)
      have N1 := hid (NXT.out k x hx)
      have k0 : (0 : Int) ≤ (k : Int) := by omega
      have Q1 := sub_eq x.1 s
      generalize closC fu s (l.take k) = o at *
      clear h1 hx
      cases hq1 : (x.1 &&& s == s) with
      | false =>
        rw [hq1] at N1 Q1
        clear hq1
        go_wp2_with fail
        go_round
        case rel => exact ⟨k + 1, by omega, by go_num, by rw [N1.out]; rfl⟩
        case measure => simp [intOf]; omega
      | true =>
        rw [hq1] at N1 Q1
        clear hq1
        go_wp2_with fail
        go_round
        case rel => exact ⟨k + 1, by omega, by go_num, by rw [N1.out]; simp⟩
        case measure => simp [intOf]; omega
    · rw [take_all hlt]
      go_wp2_with fail
      go_ret
      exact ⟨rfl, Below.refl _ _⟩

theorem cloneC_any (xs : List C2) (v : Value) (w : World) (hv : RdCt w v xs) (h44 : xs.length < 2199023255552) :
    Calls Try.prog 31 #[v] w fun e w' => ∃ v', e = .returned v' ∧ w'.ownsRow w.heap.size 35 2 v' xs.length (xs.flatMap cC) ∧ Below w.heap.size w w' := by
  obtain ⟨ao, cap, rfl, h1, h2, h3⟩ := hv
  have heq := fun (a : Option Addr) (n c : Nat) (w : World) => Lib.run_eql_slice_nil (P := Try.prog) w 28 35 a n c 0 0 undCts
  cases ao with
  | none =>
    have hx : xs = [] := by
      cases xs with
      | nil => rfl
      | cons x l => obtain ⟨b, off, h, _⟩ := h3 (by simp); cases h
    subst hx
    clear h3
    go_enter Try.func31, Try.ntmps31
    go_wp2_with fail
    go_ret
    exact ⟨_, rfl, World.ownsRow_nil _ _ _ _, Below.refl _ _⟩
  | some a =>
    obtain ⟨i, hi, hz0, hz1, hz2⟩ := info_parts infoCt
    have hlen := flat_length cC_length xs
    have hcells : ∀ (j : Nat) (u : Value), (xs.flatMap cC)[j]? = some u → w.cell? (a.add j) = some u := by
      intro j u hu
      have hj : j < (xs.flatMap cC).length := (List.getElem?_eq_some_iff.1 hu).1
      obtain ⟨b, off, e, _, hc⟩ := h3 (by omega)
      cases e
      rw [Addr.add_lit]
      exact hc j u hu
    have hcells2 : ∀ (j : Nat) (u : Value), (xs.flatMap cC)[j]? = some u → (w.alloc (.cells #[] 35)).cell? (a.add j) = some u := fun j u hu => World.cell?_alloc_lt _ _ _ (World.block_lt_of_cell? _ _ (hcells j u hu)) |>.trans (hcells j u hu)
    have HC := hid hcells2
    have hown := World.ownsRow_lit (size := 2) (e := 35) w #[] 0 (Nat.le_refl _) (Nat.zero_le _) rfl
    clear hcells hcells2 h3
    go_enter Try.func31, Try.ntmps31
    have s1 : ∀ u ∈ xs.flatMap cC, u.oneCell' = true := by
      intro u hu
      obtain ⟨x, _, hx⟩ := List.mem_flatMap.1 hu
      exact cC_one x u hx
    have S1 := hid s1
    have HL := hid hlen
    clear s1 hlen
    go_wp2_with (at_builtin; refine wpList_append_own _ rfl _ _ 28 rfl w.heap.size 35 i (.agg #[.int .u32 0, .int .i64 0]) 2 16 undCts hi hz0 hz1 hz2 rfl (by decide) _ _ _ rfl hown a xs.length cap (xs.flatMap cC) rfl HL.out HC.out S1.out (by unfold maxLen; omega) (by omega) (by simp) ?_)
    · intro v' w1 h1' hg _
      have B : Below w.heap.size w w1 := ((Below.refl _ w).alloc (Nat.le_refl _) _).grown hg (by simp) (fun k hk => by simp [Value.ownBlock] at hk; omega)
      have BB := hid B
      clear B hg
      have H := hid h1'
      clear h1'
      go_wp2_with fail
      go_ret
      exact ⟨_, rfl, by simpa using H.out, BB.out⟩

end Go.Proofs.Ytkehelplmipenaa
