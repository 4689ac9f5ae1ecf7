/- The walks of Valid of a list of dependencies and of its Clone. -/
import Derived.Test.YtciamnkalmihcaaFd2
namespace Go.Proofs.Ytciamnkalmihcaa
open Go.RowKit

/-- A dependency over the first n attributes. -/
def outF (n : Nat) (f : F) : Bool := (f.1 ||| f.2) >>> n != 0#32
theorem outF_sub (n : Nat) (f : F) : outF n f = !(decide (sub f.1 (fullN n)) && decide (sub f.2 (fullN n))) := by
  unfold outF bne
  congr 1
  rw [Bool.eq_iff_iff, beq_iff_eq, Bool.and_eq_true, decide_eq_true_iff, decide_eq_true_iff, ← sub_full]
  exact ⟨fun h => ⟨sub_trans (sub_or_left _ _) h, sub_trans (sub_or_right _ _) h⟩, fun h => or_sub h.1 h.2⟩
/-- The error of a list. -/
def validF (n : Int) (fs : List F) : Int :=
  if n < 0 ∨ 16 < n then 7 else if 64 < fs.length then 3 else if fs.any (outF n.toNat) then 1 else 0

theorem validF_any (n : Int) (fs : List F) (v : Value) (w : World) (hv : RdF w v fs) :
    Calls Try.prog 70 #[.int .i64 n, v] w fun e w' => e = .returned (.int .i64 (validF n fs)) ∧ Below w.heap.size w w' := by
  obtain ⟨ao, cap, rfl, h2, h3⟩ := hv.split
  clear hv
  by_cases hn : n < 0 ∨ 16 < n
  · have e : validF n fs = 7 := by unfold validF; rw [if_pos hn]
    rw [e]; clear e
    go_enter Try.func70, Try.ntmps70
    rcases hn with hn | hn
    · go_wp2_with fail
      go_ret
      exact ⟨rfl, Below.refl _ _⟩
    · have h0 : ¬ n < 0 := by omega
      go_wp2_with fail
      go_ret
      exact ⟨rfl, Below.refl _ _⟩
  · obtain ⟨m, rfl⟩ := Int.eq_ofNat_of_zero_le (show 0 ≤ n by omega)
    have h16 : m ≤ 16 := by omega
    by_cases hl : 64 < fs.length
    · have e : validF m fs = 3 := by unfold validF; rw [if_neg hn, if_pos hl]
      rw [e]
      clear e hn
      go_enter Try.func70, Try.ntmps70
      go_wp2_with fail
      go_ret
      exact ⟨rfl, Below.refl _ _⟩
    · have e : validF m fs = if fs.any (outF m) then 1 else 0 := by unfold validF; rw [if_neg hn, if_neg hl, Int.toNat_natCast]
      rw [e]
      obtain ⟨r, hr⟩ : ∃ r : Int, (if fs.any (outF m) then 1 else 0) = r := ⟨_, rfl⟩
      rw [hr]
      have R := hid hr
      clear e hn hr
      go_enter Try.func70, Try.ntmps70
      go_wp2_with fail
      go_loopw [18] (fun i wr => ∃ k : Nat, k ≤ fs.length ∧ i = .int .i64 k ∧ Hid ((fs.take k).any (outF m) = false) ∧ Below w.heap.size w wr) (fun i _ => fs.length - (intOf i).toNat)
      case atStart => exact ⟨0, Nat.zero_le _, rfl, hid rfl, Below.refl _ _⟩
      case round =>
        obtain ⟨k, hk, rfl, H, hnx⟩ := hrel
        by_cases hlt : k < fs.length
        · obtain ⟨f, hf⟩ := get_some hlt
          obtain ⟨b, off, rfl, hc⟩ := h3 k f hf
          obtain ⟨e0, e1⟩ := hc wr hnx
          have X := hid hf
          have N := hid (fun o => hnx.alloc hnx.size o)
          clear hf hc h3
          cases hq : (f.1 ||| f.2) >>> m != 0#32 with
          | true =>
            have E := hid (show outF m f = true from hq)
            go_wp2_with fail
            go_ret
            exact ⟨by rw [← R.out, any_hit X.out E.out]; rfl, N.out _⟩
          | false =>
            have E := hid (show outF m f = false from hq)
            go_wp2_with fail
            go_roundw
            case rel => exact ⟨k + 1, by omega, by go_num, hid (none_next X.out E.out H.out), N.out _⟩
            case measure => simp [intOf]; omega
        · go_wp2_with fail
          go_ret
          exact ⟨by rw [← R.out, any_end H.out hlt]; rfl, hnx⟩

theorem refValidF_any (n : Int) (fs : List F) (v : Value) (w : World) (hv : RdF w v fs) :
    Calls Try.prog 71 #[.int .i64 n, v] w fun e w' => e = .returned (.int .i64 (validF n fs)) ∧ w = w' := by
  obtain ⟨ao, cap, rfl, h2, h3⟩ := hv.split
  clear hv
  by_cases hn : n < 0 ∨ 16 < n
  · have e : validF n fs = 7 := by unfold validF; rw [if_pos hn]
    rw [e]; clear e
    go_enter Try.func71, Try.ntmps71
    rcases hn with hn | hn
    · go_wp2_with fail
      go_ret
      exact ⟨rfl, rfl⟩
    · have h0 : ¬ n < 0 := by omega
      go_wp2_with fail
      go_ret
      exact ⟨rfl, rfl⟩
  · obtain ⟨m, rfl⟩ := Int.eq_ofNat_of_zero_le (show 0 ≤ n by omega)
    have h16 : m ≤ 16 := by omega
    by_cases hl : 64 < fs.length
    · have e : validF m fs = 3 := by unfold validF; rw [if_neg hn, if_pos hl]
      rw [e]
      clear e hn
      go_enter Try.func71, Try.ntmps71
      go_wp2_with fail
      go_ret
      exact ⟨rfl, rfl⟩
    · have e : validF m fs = if fs.any (outF m) then 1 else 0 := by unfold validF; rw [if_neg hn, if_neg hl, Int.toNat_natCast]
      rw [e]
      obtain ⟨r, hr⟩ : ∃ r : Int, (if fs.any (outF m) then 1 else 0) = r := ⟨_, rfl⟩
      rw [hr]
      have R := hid hr
      clear e hn hr
      have C := hid sub_any
      have FU := hid (full_any m)
      have M32 := hid (show min (m : Int).toNat 32 = m by omega)
      unfold enc at *
      go_enter Try.func71, Try.ntmps71
      go_wp2_with fail
      refine (FU.out _).mono ?_
      rw [M32.out]
      rintro e w1 ⟨rfl, rfl⟩
      go_wp2_with fail
      go_loop [6] (fun i => ∃ k : Nat, k ≤ fs.length ∧ i = .int .i64 k ∧ Hid ((fs.take k).any (outF m) = false)) (fun i => fs.length - (intOf i).toNat)
      case atStart => exact ⟨0, Nat.zero_le _, rfl, hid rfl⟩
      case round =>
        obtain ⟨k, hk, rfl, H⟩ := hrel
        by_cases hlt : k < fs.length
        · obtain ⟨f, hf⟩ := get_some hlt
          obtain ⟨b, off, rfl, hc⟩ := h3 k f hf
          obtain ⟨e0, e1⟩ := hc w (Below.refl _ _)
          have X := hid hf
          clear hf hc h3
          cases hq : decide (sub f.1 (fullN m)) with
          | false =>
            have E := hid (show outF m f = true by rw [outF_sub, hq]; rfl)
            have Q := hid hq
            clear hq
            go_wp2_with fail
            refine (C.out _ _ _).mono ?_
            rw [Q.out]
            rintro e w' ⟨rfl, rfl⟩
            go_wp2_with fail
            go_ret
            exact ⟨by rw [← R.out, any_hit X.out E.out]; rfl, rfl⟩
          | true =>
            have Q := hid hq
            cases hq2 : decide (sub f.2 (fullN m)) with
            | false =>
              have E := hid (show outF m f = true by rw [outF_sub, hq, hq2]; rfl)
              have Q2 := hid hq2
              clear hq hq2
              go_wp2_with fail
              refine (C.out _ _ _).mono ?_
              rw [Q.out]
              rintro e w' ⟨rfl, rfl⟩
              go_wp2_with fail
              refine (C.out _ _ _).mono ?_
              rw [Q2.out]
              rintro e w' ⟨rfl, rfl⟩
              go_wp2_with fail
              go_ret
              exact ⟨by rw [← R.out, any_hit X.out E.out]; rfl, rfl⟩
            | true =>
              have E := hid (show outF m f = false by rw [outF_sub, hq, hq2]; rfl)
              have Q2 := hid hq2
              clear hq hq2
              go_wp2_with fail
              refine (C.out _ _ _).mono ?_
              rw [Q.out]
              rintro e w' ⟨rfl, rfl⟩
              go_wp2_with fail
              refine (C.out _ _ _).mono ?_
              rw [Q2.out]
              rintro e w' ⟨rfl, rfl⟩
              go_wp2_with fail
              go_round
              case rel => exact ⟨k + 1, by omega, by go_num, hid (none_next X.out E.out H.out)⟩
              case measure => simp [intOf]; omega
        · go_wp2_with fail
          go_ret
          exact ⟨by rw [← R.out, any_end H.out hlt]; rfl, rfl⟩

theorem infoFD : (Try.prog.info? 31).map (fun i => (i.zero, i.size, i.bytes)) = some (some (.agg #[.int .u32 0, .int .u32 0]), 2, 8) := by kernel_rfl
theorem undFDs : Try.prog.underlying 22 = some (.slice 31) := by kernel_rfl

/-- slices.Clone. -/
theorem cloneF_any (xs : List F) (v : Value) (w : World) (hv : RdF w v xs) (h44 : xs.length < 2199023255552) :
    Calls Try.prog 21 #[v] w fun e w' => ∃ v', e = .returned v' ∧ w'.ownsRow w.heap.size 31 2 v' xs.length (xs.flatMap cF) ∧ Below w.heap.size w w' := by
  obtain ⟨ao, cap, rfl, h1, h2, h3⟩ := hv
  have heq := fun (a : Option Addr) (n c : Nat) (w : World) => Lib.run_eql_slice_nil (P := Try.prog) w 22 31 a n c 0 0 undFDs
  cases ao with
  | none =>
    have hx : xs = [] := by
      cases xs with
      | nil => rfl
      | cons x l => obtain ⟨b, off, h, _⟩ := h3 (by simp); cases h
    subst hx
    clear h3
    go_enter Try.func21, Try.ntmps21
    go_wp2_with fail
    go_ret
    exact ⟨_, rfl, World.ownsRow_nil _ _ _ _, Below.refl _ _⟩
  | some a =>
    obtain ⟨i, hi, hz0, hz1, hz2⟩ := info_parts infoFD
    have hlen := flat_length cF_length xs
    have hcells : ∀ (j : Nat) (u : Value), (xs.flatMap cF)[j]? = some u → w.cell? (a.add j) = some u := by
      intro j u hu
      have hj : j < (xs.flatMap cF).length := (List.getElem?_eq_some_iff.1 hu).1
      obtain ⟨b, off, e, _, hc⟩ := h3 (by omega)
      cases e
      rw [Addr.add_lit]
      exact hc j u hu
    have hcells2 : ∀ (j : Nat) (u : Value), (xs.flatMap cF)[j]? = some u → (w.alloc (.cells #[] 31)).cell? (a.add j) = some u := fun j u hu => World.cell?_alloc_lt _ _ _ (World.block_lt_of_cell? _ _ (hcells j u hu)) |>.trans (hcells j u hu)
    have HC := hid hcells2
    have hown := World.ownsRow_lit (size := 2) (e := 31) w #[] 0 (Nat.le_refl _) (Nat.zero_le _) rfl
    clear hcells hcells2 h3
    go_enter Try.func21, Try.ntmps21
    have s1 : ∀ u ∈ xs.flatMap cF, u.oneCell' = true := by
      intro u hu
      obtain ⟨x, _, hx⟩ := List.mem_flatMap.1 hu
      exact cF_one x u hx
    have S1 := hid s1
    have HL := hid hlen
    clear s1 hlen
    go_wp2_with (at_builtin; refine wpList_append_own _ rfl _ _ 22 rfl w.heap.size 31 i (.agg #[.int .u32 0, .int .u32 0]) 2 8 undFDs hi hz0 hz1 hz2 rfl (by decide) _ _ _ rfl hown a xs.length cap (xs.flatMap cF) rfl HL.out HC.out S1.out (by unfold maxLen; omega) (by omega) (by simp) ?_)
    · intro v' w1 h1' hg _
      have B : Below w.heap.size w w1 := ((Below.refl _ w).alloc (Nat.le_refl _) _).grown hg (by simp) (fun k hk => by simp [Value.ownBlock] at hk; omega)
      have BB := hid B
      clear B hg
      have H := hid h1'
      clear h1'
      go_wp2_with fail
      go_ret
      exact ⟨_, rfl, by simpa using H.out, BB.out⟩

end Go.Proofs.Ytciamnkalmihcaa
