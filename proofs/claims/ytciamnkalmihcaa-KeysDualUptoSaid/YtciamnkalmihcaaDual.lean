/- The walk of transversal.Dual, and of few. -/
import Derived.Test.YtciamnkalmihcaaSmall
namespace Go.Proofs.Ytciamnkalmihcaa
open Go.RowKit

theorem undSet : Try.prog.underlying 24 = some (.int .u32) := by kernel_rfl
theorem undMapB : Try.prog.underlying 120 = some (.map 24 4) := by kernel_rfl
theorem undBool : Try.prog.underlying 4 = some .bool := by kernel_rfl
theorem zeroB (w : World) : (zeroValue 4).run Try.prog w = .ok (.bool false) w := by kernel_rfl

/-- What Dual returns: nothing, yes, or a set that is in one of the two lists alone. -/
def DualP (n : Int) (xs sets : List S) (d : S) (ok : Bool) : Prop :=
  if validS n xs ≠ 0 ∨ 20000 < sets.length then d = 0#32 ∧ ok = false
  else (ok = true ∧ d = 0#32 ∧ ∀ s, s ∈ sets ↔ s ∈ allS xs) ∨ (ok = false ∧ ¬ (d ∈ allS xs ↔ d ∈ sets))
def DualE (n : Int) (xs sets : List S) (e : Ending) : Prop := ∃ d ok, e = .returned (.tuple #[enc d, .bool ok]) ∧ DualP n xs sets d ok
theorem inL_next {l : List S} {k : Nat} {x : S} (h : l[k]? = some x) (s : S) : inL (l.take (k + 1)) s = (inL (l.take k) s || (x == s)) := by
  unfold inL; rw [take_next h, List.any_append]; simp
def rem (sets l : List S) (s : S) : Bool := inL sets s && !inL l s

set_option maxHeartbeats 1000000 in
theorem dual_any (n : Int) (xs sets : List S) (v u : Value) (w : World) (hv : RdE enc w v xs) (hu : RdE enc w u sets) :
    Calls Try.prog 76 #[.int .i64 n, v, u] w fun e w' => DualE n xs sets e ∧ Below w.heap.size w w' := by
  have C := hid (allW n xs v w hv)
  have HU := hid hu
  obtain ⟨uo, ucap, rfl, -, hu45, -⟩ := hu
  have hmm := @run_makeMap Try.prog
  by_cases hbad : validS n xs ≠ 0 ∨ 20000 < sets.length
  · have hD : DualP n xs sets 0#32 false := by unfold DualP; rw [if_pos hbad]; exact ⟨rfl, rfl⟩
    have HD := hid hD
    clear hD hv
    by_cases h0 : validS n xs = 0
    · have hl : 20000 < sets.length := hbad.resolve_left (by simp [h0])
      rw [h0] at C
      clear hbad h0
      go_enter Try.func76, Try.ntmps76
      go_wp2_with fail
      refine C.out.mono ?_
      rintro e w1 ⟨v1, rfl, -, -, hb⟩
      have B := hid hb
      clear hb
      go_wp2_with fail
      go_ret2
      exact ⟨⟨_, _, rfl, HD.out⟩, B.out⟩
    · have hne : (validS n xs != 0) = true := by simpa using h0
      clear hbad h0
      have KEEP := hid hne
      generalize hr : validS n xs = r at C hne
      have HR := hid hr
      clear hr
      go_enter Try.func76, Try.ntmps76
      go_wp2_with fail
      refine C.out.mono ?_
      rintro e w1 ⟨v1, rfl, -, -, hb⟩
      have B := hid hb
      clear hb
      go_wp2_with fail
      go_ret2
      exact ⟨⟨_, _, rfl, HD.out⟩, B.out⟩
  · have h0 : validS n xs = 0 := by
      apply Classical.byContradiction
      intro h; exact hbad (.inl h)
    have hl : ¬ 20000 < sets.length := fun h => hbad (.inr h)
    have hres : resS n xs = allS xs := by unfold resS; rw [if_pos h0]
    have hD : ∀ d ok, ((ok = true ∧ d = 0#32 ∧ ∀ s, s ∈ sets ↔ s ∈ allS xs) ∨ (ok = false ∧ ¬ (d ∈ allS xs ↔ d ∈ sets))) → DualP n xs sets d ok := fun d ok h => by
      unfold DualP; rw [if_neg hbad]; exact h
    have HD := hid hD
    have PW := hid ((allS_ord xs).1)
    rw [hres, h0] at C
    clear hD hbad h0 hres hv
    generalize allS xs = L at *
    go_enter Try.func76, Try.ntmps76
    go_wp2_with fail
    refine C.out.mono ?_
    rintro e w1 ⟨v1, rfl, hown1, hL, hb1⟩
    have hrl := RdE.of_owns hown1 (by omega)
    obtain ⟨lo, lcap, rfl, -, -, hl3⟩ := hrl
    obtain ⟨uo', ucap', hue, -, -, hu3⟩ := HU.out.below hb1
    cases hue
    have B1 := hid hb1
    clear hown1 hb1 C
    have hm0 := OwnM.made (E := boolElems Try.prog 4 undBool) (z := false) (k := 24) (w := w1)
    have hba := below_alloc w1 (.map #[] 0)
    go_wp2_with fail
    go_loopw [33] (fun i wr => ∃ k : Nat, k ≤ sets.length ∧ i = .int .i64 k ∧ OwnM (boolElems Try.prog 4 undBool) false 24 wr w1.heap.size k (inL (sets.take k)) ∧ Below w1.heap.size w1 wr) (fun i _ => sets.length - (intOf i).toNat)
    case atStart => exact ⟨0, Nat.zero_le _, rfl, hm0, hba⟩
    case round =>
      obtain ⟨wo, rfl⟩ : ∃ wo : World, wo = wr := ⟨_, rfl⟩
      obtain ⟨k, hk, rfl, hm, hnx⟩ := hrel
      have hsz := hnx.size
      by_cases hlt : k < sets.length
      · obtain ⟨b, off, rfl, hb, hc⟩ := hu3 (by omega)
        obtain ⟨x, hx⟩ := get_some hlt
        have e0 : wo.cell? ⟨b, off + k, none⟩ = some (.int .u32 (iv x)) := (hnx.cell (p := ⟨b, off + k, none⟩) hb).trans (hc k x hx)
        have NX := hid (inL_next hx)
        clear hx hc hu3 hm0 hba
        go_wp2_with (at_mapUpdate; refine wpList_mput (E := boolElems Try.prog 4 undBool) rfl _ _ _ 120 rfl undSet undMapB rfl hm (by unfold maxLen; omega) x true rfl rfl ?_)
        intro w4 hm4 hg4
        have hb4 := hnx.grown hg4 hsz (fun j hj => by cases hj; exact Nat.le_refl _)
        have hm5 : OwnM (boolElems Try.prog 4 undBool) false 24 w4 w1.heap.size (k + 1) (inL (sets.take (k + 1))) := hm4.congr (fun s => by
          rw [NX.out]
          by_cases h : s = x
          · subst h; rw [upd_same]; simp
          · rw [upd_other _ _ h]
            have : (x == s) = false := by simpa using fun e => h e.symm
            rw [this, Bool.or_false])
        clear hm4 hg4 hm hnx
        go_wp2_with fail
        go_roundw
        case rel => exact ⟨k + 1, by omega, by go_num, hm5, hb4⟩
        case measure => simp [intOf]; omega
      · have hkk : k = sets.length := by omega
        subst hkk
        rw [List.take_length] at hm
        have hm6 : OwnM (boolElems Try.prog 4 undBool) false 24 wo w1.heap.size sets.length (rem sets (L.take 0)) := hm.congr (fun s => by unfold rem; simp [inL])
        clear hm hm0 hba
        go_wp2_with fail
        go_loopw [42] (fun i wr => ∃ k : Nat, k ≤ L.length ∧ i = .int .i64 k ∧ OwnM (boolElems Try.prog 4 undBool) false 24 wr w1.heap.size sets.length (rem sets (L.take k)) ∧ Below w1.heap.size w1 wr ∧ Hid (∀ s ∈ L.take k, s ∈ sets)) (fun i _ => L.length - (intOf i).toNat)
        case atStart => exact ⟨0, Nat.zero_le _, rfl, hm6, hnx, hid (by simp)⟩
        case round =>
          obtain ⟨wp, rfl⟩ : ∃ wp : World, wp = wr := ⟨_, rfl⟩
          obtain ⟨k, hk, rfl, hm, hnx, HS⟩ := hrel
          have hsz := hnx.size
          by_cases hlt : k < L.length
          · obtain ⟨b, off, rfl, hb, hc⟩ := hl3 (by omega)
            obtain ⟨x, hx⟩ := get_some hlt
            have e0 : wp.cell? ⟨b, off + k, none⟩ = some (.int .u32 (iv x)) := (hnx.cell (p := ⟨b, off + k, none⟩) hb).trans (hc k x hx)
            have NX := hid (inL_next hx)
            have TN := hid (take_next hx)
            have hxn : inL (L.take k) x = false := by
              cases hq : inL (L.take k) x with
              | false => rfl
              | true =>
                have h1 := inL_iff.1 hq
                have h2 : (L.take k ++ [x]).Pairwise bef := by rw [← take_next hx]; exact PW.out.sublist (List.take_sublist _ _)
                exact absurd ((List.pairwise_append.1 h2).2.2 x h1 x (by simp)) (bef_irrefl x)
            have hxl : x ∈ L := List.mem_of_getElem? hx
            have hrem : rem sets (L.take k) x = inL sets x := by unfold rem; rw [hxn]; simp
            clear hx hc hl3 hm6
            cases hq : inL sets x with
            | false =>
              rw [hq] at hrem
              have HR := hid hrem
              have XL := hid hxl
              have XS := hid (show ¬ x ∈ sets from fun h => by rw [← inL_iff, hq] at h; cases h)
              have XN := hid hxn
              have HB := hid hnx
              clear hrem hq hxl hxn hnx
              go_wp2_with (at_lookup; refine wpList_mlook (E := boolElems Try.prog 4 undBool) (z := false) (f := rem sets (L.take k)) (n := sets.length) (b := w1.heap.size) (k := 24) rfl _ _ 120 rfl undSet undMapB (zeroB _) rfl hm x rfl ?_; rw [HR.out]; show wpList _ _ _ _ (Act.put _ _ (.bool false)) _)
              go_ret2
              exact ⟨⟨x, false, rfl, HD.out _ _ (.inr ⟨rfl, fun h => XS.out (h.1 XL.out)⟩)⟩, B1.out.trans (HB.out.mono B1.out.size)⟩
            | true =>
              rw [hq] at hrem
              have HR := hid hrem
              have XS := hid (inL_iff.1 hq)
              clear hrem hq hxl hxn
              go_wp2_with (first | (at_lookup; refine wpList_mlook (E := boolElems Try.prog 4 undBool) (z := false) (f := rem sets (L.take k)) (n := sets.length) (b := w1.heap.size) (k := 24) rfl _ _ 120 rfl undSet undMapB (zeroB _) rfl hm x rfl ?_; rw [HR.out]; show wpList _ _ _ _ (Act.put _ _ (.bool true)) _) | (at_delete; refine wpList_mdel (E := boolElems Try.prog 4 undBool) (z := false) rfl _ _ 120 rfl undSet undMapB rfl hm x rfl ?_))
              intro w4 hm4 hg4
              have hb4 := hnx.grown hg4 hsz (fun j hj => by cases hj; exact Nat.le_refl _)
              have hm5 : OwnM (boolElems Try.prog 4 undBool) false 24 w4 w1.heap.size sets.length (rem sets (L.take (k + 1))) := hm4.congr (fun s => by
                unfold rem
                rw [NX.out]
                by_cases h : s = x
                · subst h; rw [upd_same]; simp
                · rw [upd_other _ _ h]
                  have : (x == s) = false := by simpa using fun e => h e.symm
                  rw [this, Bool.or_false])
              have HS2 : Hid (∀ s ∈ L.take (k + 1), s ∈ sets) := hid (by
                rw [TN.out]
                intro s hs
                rw [List.mem_append, List.mem_singleton] at hs
                rcases hs with hs | rfl
                · exact HS.out s hs
                · exact XS.out)
              clear hm4 hg4 hm hnx
              go_wp2_with fail
              go_roundw
              case rel => exact ⟨k + 1, by omega, by go_num, hm5, hb4, HS2⟩
              case measure => simp [intOf]; omega
          · have hkk : k = L.length := by omega
            subst hkk
            rw [List.take_length] at hm HS
            clear hm6
            go_wp2_with fail
            go_loopw [56] (fun i wr => ∃ k : Nat, k ≤ sets.length ∧ i = .int .i64 k ∧ wr = wp ∧ Hid (∀ s ∈ sets.take k, s ∈ L)) (fun i _ => sets.length - (intOf i).toNat)
            case atStart => exact ⟨0, Nat.zero_le _, rfl, rfl, hid (by simp)⟩
            case round =>
              obtain ⟨k, hk, rfl, rfl, HT⟩ := hrel
              by_cases hlt : k < sets.length
              · obtain ⟨b, off, rfl, hb, hc⟩ := hu3 (by omega)
                obtain ⟨x, hx⟩ := get_some hlt
                have e0 : wr.cell? ⟨b, off + k, none⟩ = some (.int .u32 (iv x)) := (hnx.cell (p := ⟨b, off + k, none⟩) hb).trans (hc k x hx)
                have TN := hid (take_next hx)
                have hxs : x ∈ sets := List.mem_of_getElem? hx
                have hrem : rem sets L x = !inL L x := by unfold rem; rw [inL_iff.2 hxs]; simp
                clear hx hc hu3
                cases hq : inL L x with
                | false =>
                  rw [hq] at hrem
                  have HR := hid hrem
                  have XL := hid (show ¬ x ∈ L from fun h => by rw [← inL_iff, hq] at h; cases h)
                  have XS := hid hxs
                  have HB := hid hnx
                  clear hrem hq hxs hnx
                  go_wp2_with (at_lookup; refine wpList_mlook (E := boolElems Try.prog 4 undBool) (z := false) (f := rem sets L) (n := sets.length) (b := w1.heap.size) (k := 24) rfl _ _ 120 rfl undSet undMapB (zeroB _) rfl hm x rfl ?_; rw [HR.out]; show wpList _ _ _ _ (Act.put _ _ (.bool true)) _)
                  go_ret2
                  exact ⟨⟨x, false, rfl, HD.out _ _ (.inr ⟨rfl, fun h => XL.out (h.2 XS.out)⟩)⟩, B1.out.trans (HB.out.mono B1.out.size)⟩
                | true =>
                  rw [hq] at hrem
                  have HR := hid hrem
                  have XL := hid (inL_iff.1 hq)
                  clear hrem hq hxs
                  go_wp2_with (at_lookup; refine wpList_mlook (E := boolElems Try.prog 4 undBool) (z := false) (f := rem sets L) (n := sets.length) (b := w1.heap.size) (k := 24) rfl _ _ 120 rfl undSet undMapB (zeroB _) rfl hm x rfl ?_; rw [HR.out]; show wpList _ _ _ _ (Act.put _ _ (.bool false)) _)
                  go_roundw
                  case rel =>
                    have HT2 : Hid (∀ s ∈ sets.take (k + 1), s ∈ L) := hid (by
                      rw [TN.out]
                      intro s hs
                      rw [List.mem_append, List.mem_singleton] at hs
                      rcases hs with hs | rfl
                      · exact HT.out s hs
                      · exact XL.out)
                    exact ⟨k + 1, by omega, by go_num, trivial, HT2⟩
                  case measure => simp [intOf]; omega
              · have HB := hid hnx
                clear hnx
                go_wp2_with fail
                go_ret2
                refine ⟨⟨0#32, true, rfl, HD.out _ _ (.inl ⟨rfl, rfl, fun s => ⟨fun h => ?_, fun h => HS.out s h⟩⟩)⟩, B1.out.trans (HB.out.mono B1.out.size)⟩
                have := HT.out
                rw [take_all hlt] at this
                exact this s h


end Go.Proofs.Ytciamnkalmihcaa
