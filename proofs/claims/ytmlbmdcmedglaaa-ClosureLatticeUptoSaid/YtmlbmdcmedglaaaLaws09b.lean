/- More laws of chapter 9, over the contracts of what they call. -/
import Derived.Test.YtmlbmdcmedglaaaLaws09
import Derived.Test.YtmlbmdcmedglaaaListD
import Derived.Test.YtmlbmdcmedglaaaCovL
namespace Go.Proofs.Ytmlbmdcmedglaaa
open Go.RowKit

set_option maxHeartbeats 800000 in
theorem impliesL (v : Value) (f : F) (c : S) (w : World) (h : ArgC cF w v) :
    Calls Try.prog 5 #[v, .agg #[enc f.1, enc f.2], .int .u32 (iv c)] w fun e w' => e = .returned (.bool true) ∧ Below w.heap.size w w' := by
  have AW := hid awake_any
  obtain ⟨ao, len, cap, rfl, h⟩ := h
  have b0 := hid (below_alloc w (.cells #[enc f.1, enc f.2] 30))
  have c0 : (w.alloc (.cells #[enc f.1, enc f.2] 30)).cell? ⟨w.heap.size, 0, none⟩ = some (.int .u32 (iv f.1)) := by simp [enc]
  have c1 : (w.alloc (.cells #[enc f.1, enc f.2] 30)).cell? ⟨w.heap.size, 1, none⟩ = some (.int .u32 (iv f.2)) := by simp [enc]
  by_cases hl : len ≤ 20
  · have hd : decide ((len : Int) > 20) = false := by simp; omega
    obtain ⟨fs, hfl, hr⟩ := h (by omega)
    have CL := hid (fun (W : World) (hb : Below w.heap.size w W) => cloneR fs _ W (hr.below hb) (by omega))
    have C1 := hid (fun (u : Value) (W : World) (hv : RdF W u fs) => implies_any fs f u W hv)
    have C2 := hid (fun (W : World) (hb : Below w.heap.size w W) => refImplies_any fs f _ W (hr.below hb))
    have C3 := hid (fun (u : Value) (W : World) (hv : RdF W u fs) => implies_any fs (f.1 ||| c, f.2) u W hv)
    have C4 := hid (fun (u : Value) (W : World) (hv : RdF W u fs) => implies_any fs (f.1, f.2 &&& ~~~ c) u W hv)
    clear hr hfl h
    have H := hid (held2 c0 c1)
    have HC := hid (fun (W : World) => (H.out W))
    clear c0 c1
    generalize hw0 : w.alloc (.cells #[enc f.1, enc f.2] 30) = w0 at *
    have W0 := hid hw0
    clear hw0
    cases hq : impS fs f with
    | true =>
      have q3 : impS fs (f.1 ||| c, f.2) = true := imp_left hq (sub_or_left _ _)
      have q4 : impS fs (f.1, f.2 &&& ~~~ c) = true := imp_right hq (and_sub_left _ _)
      rw [hq] at C1 C2
      rw [q3] at C3
      rw [q4] at C4
      simp only [enc_eq] at *
      clear hq q3 q4
      go_enter Try.func5, Try.ntmps5
      go_wp2_with fail
      rw [W0.out]
      refine (AW.out _).mono ?_
      rintro e w1 ⟨rfl, hb1⟩
      have H1 := hid (H.out w1 hb1)
      have HH := hid (held2 H1.out.2.1 H1.out.2.2)
      have BB := hid (fun (W : World) (h : Below w1.heap.size w1 W) => b0.out.trans ((hb1.trans (h.mono hb1.size)).mono b0.out.size))
      clear hb1
      go_wp2_with fail
      go_region_held3 (fun w' => Below w1.heap.size w1 w' ∧ w'.cell? ⟨w.heap.size, 0, none⟩ = some (.int .u32 (iv f.1)) ∧ w'.cell? ⟨w.heap.size, 1, none⟩ = some (.int .u32 (iv f.2)))
        (first | exact HH.out _ (Below.refl _ _).drew | exact HH.out _ (by assumption))
        (first
          | (go_at_call 12; have hS := And.left ‹Below w1.heap.size w1 _ ∧ _ ∧ _›; refine (CL.out _ (BB.out _ hS)).mono ?_; rintro e w2 ⟨v2, rfl, hr2, hb2⟩; have hL := later hS hb2; clear hb2 hS)
          | (go_at_call 18; have hS := And.left ‹Below w1.heap.size w1 _ ∧ _ ∧ _›; refine (C1.out _ _ (by assumption)).mono ?_; rintro e w3 ⟨rfl, hb3⟩; have hL := later hS hb3; clear hb3 hS))
      rename_i w3 _
      have HL := hid hL
      obtain ⟨-, c0, c1⟩ := HH.out _ hL
      clear hL
      go_wp2_with fail
      refine (C2.out _ (BB.out _ HL.out)).mono ?_
      rintro e w4 ⟨rfl, hb4⟩
      have HL4 := hid (later HL.out hb4)
      clear hb4 c0 c1
      go_wp2_with fail
      obtain ⟨-, c0, c1⟩ := HH.out _ HL4.out
      have HH4 := hid (held2 c0 c1)
      have BB4 := hid (fun (W : World) (h : Below w4.heap.size w4 W) => BB.out _ (later HL4.out h))
      clear c0 c1 HH
      go_region_held3 (fun w' => Below w4.heap.size w4 w' ∧ w'.cell? ⟨w.heap.size, 0, none⟩ = some (.int .u32 (iv f.1)) ∧ w'.cell? ⟨w.heap.size, 1, none⟩ = some (.int .u32 (iv f.2)))
        (first | exact HH4.out _ (Below.refl _ _).drew | exact HH4.out _ (by assumption))
        (first
          | (go_at_call 12; have hS := And.left ‹Below w4.heap.size w4 _ ∧ _ ∧ _›; refine (CL.out _ (BB4.out _ hS)).mono ?_; rintro e w5 ⟨v5, rfl, hr5, hb5⟩; have hL := later hS hb5; clear hb5 hS)
          | (go_at_call 18; have hS := And.left ‹Below w4.heap.size w4 _ ∧ _ ∧ _›; ((with_reducible refine (C3.out _ _ (by assumption)).mono ?_); rintro e w6 ⟨rfl, hb6⟩; have hL := later hS hb6; clear hb6 hS))
          | (go_at_call 18; have hS := And.left ‹Below w4.heap.size w4 _ ∧ _ ∧ _›; ((with_reducible refine (C4.out _ _ (by assumption)).mono ?_); rintro e w6 ⟨rfl, hb6⟩; have hL := later hS hb6; clear hb6 hS)))
      all_goals
        have HL9 := hid hL
        clear hL
        go_wp2_with fail
        go_ret
        exact ⟨rfl, BB4.out _ HL9.out⟩
    | false =>
      rw [hq] at C1 C2
      simp only [enc_eq] at *
      clear hq C3 C4
      go_enter Try.func5, Try.ntmps5
      go_wp2_with fail
      rw [W0.out]
      refine (AW.out _).mono ?_
      rintro e w1 ⟨rfl, hb1⟩
      have H1 := hid (H.out w1 hb1)
      have HH := hid (held2 H1.out.2.1 H1.out.2.2)
      have BB := hid (fun (W : World) (h : Below w1.heap.size w1 W) => b0.out.trans ((hb1.trans (h.mono hb1.size)).mono b0.out.size))
      clear hb1
      go_wp2_with fail
      go_region_held3 (fun w' => Below w1.heap.size w1 w' ∧ w'.cell? ⟨w.heap.size, 0, none⟩ = some (.int .u32 (iv f.1)) ∧ w'.cell? ⟨w.heap.size, 1, none⟩ = some (.int .u32 (iv f.2)))
        (first | exact HH.out _ (Below.refl _ _).drew | exact HH.out _ (by assumption))
        (first
          | (go_at_call 12; have hS := And.left ‹Below w1.heap.size w1 _ ∧ _ ∧ _›; refine (CL.out _ (BB.out _ hS)).mono ?_; rintro e w2 ⟨v2, rfl, hr2, hb2⟩; have hL := later hS hb2; clear hb2 hS)
          | (go_at_call 18; have hS := And.left ‹Below w1.heap.size w1 _ ∧ _ ∧ _›; refine (C1.out _ _ (by assumption)).mono ?_; rintro e w3 ⟨rfl, hb3⟩; have hL := later hS hb3; clear hb3 hS))
      rename_i w3 _
      have HL := hid hL
      obtain ⟨-, c0, c1⟩ := HH.out _ hL
      clear hL
      go_wp2_with fail
      refine (C2.out _ (BB.out _ HL.out)).mono ?_
      rintro e w4 ⟨rfl, hb4⟩
      have HL4 := hid (later HL.out hb4)
      clear hb4 c0 c1
      go_wp2_with fail
      obtain ⟨-, c0, c1⟩ := HH.out _ HL4.out
      go_quiet (fail)
      go_wp2_with fail
      go_ret
      exact ⟨rfl, below_drewN' (BB.out _ HL4.out) _⟩
  · have hd : decide ((len : Int) > 20) = true := by simp; omega
    clear h
    go_enter Try.func5, Try.ntmps5
    go_wp2_with fail
    refine (AW.out _).mono ?_
    rintro e w1 ⟨rfl, hb1⟩
    have B1 := hid (b0.out.trans (hb1.mono b0.out.size))
    clear hb1
    go_wp2_with fail
    refine (AW.out _).mono ?_
    rintro e w2 ⟨rfl, hb2⟩
    have B2 := hid (B1.out.trans (hb2.mono B1.out.size))
    clear hb2
    go_wp2_with fail
    go_ret
    exact ⟨rfl, B2.out⟩

end Go.Proofs.Ytmlbmdcmedglaaa
