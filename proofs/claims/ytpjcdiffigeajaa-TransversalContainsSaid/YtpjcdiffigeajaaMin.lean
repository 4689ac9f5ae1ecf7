/- The walks of the two Minimal. -/
import Derived.Test.YtpjcdiffigeajaaMem
namespace Go.Proofs.Ytpjcdiffigeajaa
open Go.RowKit

theorem hitsW (xs : List S) (s : S) (v : Value) (w : World) (hv : RdE enc w v xs) :
    Calls Try.prog 30 #[v, enc s] w fun e w' => e = .returned (.bool (hitsS xs s)) ∧ Below w.heap.size w w' := hits_any xs s v w hv
theorem refHitsW (xs : List S) (s : S) (v : Value) (w : World) (hv : RdE enc w v xs) :
    Calls Try.prog 31 #[v, enc s] w fun e w' => e = .returned (.bool (hitsS xs s)) ∧ w = w' := refHits_any xs s v w hv

theorem refMinimal_any (xs : List S) (s : S) (v : Value) (w : World) (hv : RdE enc w v xs) :
    Calls Try.prog 33 #[v, enc s] w fun e w' => e = .returned (.bool (minS xs s)) ∧ w = w' := by
  have C := hid (fun s => refHitsW xs s v w hv)
  cases hh : hitsS xs s with
  | false =>
    have e : minS xs s = false := by simp [minS, hh]
    rw [e]; clear e
    have HH := hid hh
    clear hh
    unfold enc at *
    go_enter Try.func33, Try.ntmps33
    go_wp2_with fail
    refine (C.out s).mono ?_
    rw [HH.out]
    rintro e w' ⟨rfl, rfl⟩
    go_wp2_with fail
    go_ret
    exact ⟨rfl, rfl⟩
  | true =>
    have e : minS xs s = !leaves xs s 32 := by simp [minS, hh]
    rw [e]; clear e
    have HH := hid hh
    clear hh hv
    unfold enc at *
    go_enter Try.func33, Try.ntmps33
    go_wp2_with fail
    refine (C.out s).mono ?_
    rw [HH.out]
    rintro e w' ⟨rfl, rfl⟩
    go_wp2_with fail
    go_loop [5] (fun i => ∃ k : Nat, k ≤ 32 ∧ i = .int .i64 k ∧ Hid (leaves xs s k = false)) (fun i => 32 - (intOf i).toNat)
    case atStart => exact ⟨0, Nat.zero_le _, rfl, hid (leaves_zero _ _)⟩
    case round =>
      obtain ⟨k, hk, rfl, H⟩ := hrel
      by_cases hlt : k < 32
      · have hb := bit_and s k hlt
        cases hs : s.getLsbD k with
        | false =>
          rw [hs] at hb
          have HS := hid hs
          clear hs
          go_wp2_with fail
          go_round
          case rel => exact ⟨k + 1, by omega, by go_num, hid (leaves_next H.out (by simp [HS.out]))⟩
          case measure => simp [intOf]; omega
        | true =>
          rw [hs] at hb
          have HS := hid hs
          clear hs
          cases hq : hitsS xs (s &&& ~~~ bit k) with
          | true =>
            have HQ := hid hq
            clear hq
            go_wp2_with fail
            refine (C.out (s &&& ~~~ bit k)).mono ?_
            rw [HQ.out]
            rintro e w' ⟨rfl, rfl⟩
            go_wp2_with fail
            go_ret
            exact ⟨ret_bool (by rw [leaves_hit hlt (by simp [HS.out, HQ.out])]; rfl), rfl⟩
          | false =>
            have HQ := hid hq
            clear hq
            go_wp2_with fail
            refine (C.out (s &&& ~~~ bit k)).mono ?_
            rw [HQ.out]
            rintro e w' ⟨rfl, rfl⟩
            go_wp2_with fail
            go_round
            case rel => exact ⟨k + 1, by omega, by go_num, hid (leaves_next H.out (by simp [HS.out, HQ.out]))⟩
            case measure => simp [intOf]; omega
      · obtain rfl : k = 32 := by omega
        go_wp2_with fail
        go_ret
        exact ⟨ret_bool (by rw [H.out]; rfl), rfl⟩

theorem minimal_any (xs : List S) (s : S) (v : Value) (w : World) (hv : RdE enc w v xs) :
    Calls Try.prog 32 #[v, enc s] w fun e w' => e = .returned (.bool (minS xs s)) ∧ Below w.heap.size w w' := by
  have C := hid (fun s (wr : World) (hb : Below w.heap.size w wr) => hitsW xs s v wr (hv.below hb))
  cases hh : hitsS xs s with
  | false =>
    have e : minS xs s = false := by simp [minS, hh]
    rw [e]; clear e
    have HH := hid hh
    clear hh
    unfold enc at *
    go_enter Try.func32, Try.ntmps32
    go_wp2_with fail
    refine (C.out s _ (Below.refl _ _)).mono ?_
    rw [HH.out]
    rintro e w' ⟨rfl, hb⟩
    have B := hid hb
    clear hb
    go_wp2_with fail
    go_ret
    exact ⟨rfl, B.out⟩
  | true =>
    have e : minS xs s = !leaves xs s 32 := by simp [minS, hh]
    rw [e]; clear e
    have HH := hid hh
    clear hh hv
    unfold enc at *
    go_enter Try.func32, Try.ntmps32
    go_wp2_with fail
    refine (C.out s _ (Below.refl _ _)).mono ?_
    rw [HH.out]
    rintro e w1 ⟨rfl, hb⟩
    have B := hid hb
    clear hb
    go_wp2_with fail
    go_loopw [5] (fun i wr => ∃ r : S, i = .int .u32 (iv r) ∧ Below w.heap.size w wr ∧ Hid (sub r s ∧ ∀ i, i < 32 → s.getLsbD i = true → r.getLsbD i = false → hitsS xs (s &&& ~~~ bit i) = false)) (fun i _ => (intOf i).toNat)
    case atStart => exact ⟨s, rfl, B.out, hid ⟨sub_refl _, fun i _ h1 h2 => by rw [h1] at h2; cases h2⟩⟩
    case round =>
      obtain ⟨r, rfl, hb, H⟩ := hrel
      by_cases h0 : r = 0#32
      · have hne : (r != 0#32) = false := by simp [h0]
        have R0 := hid h0
        clear h0
        have B2 := hid hb
        clear hb
        go_wp2_with fail
        go_ret
        refine ⟨ret_bool ?_, B2.out⟩
        rw [leaves_none (fun i hi => ?_)]; rfl
        cases hs : s.getLsbD i with
        | false => simp
        | true => simp [H.out.2 i hi hs (by rw [R0.out]; simp)]
      · have hne : (r != 0#32) = true := by simp [h0]
        obtain ⟨i, hi, h1, h2, h3, h4⟩ := low_bit h0
        have hlt := drop_low_lt h0
        clear h2 h0
        have h1s := H.out.1 i hi h1
        cases hq : hitsS xs (s &&& ~~~ bit i) with
        | true =>
          have HQ := hid hq
          have H3 := hid h3; have H4 := hid h4; have H1 := hid h1; have H1s := hid h1s
          clear hq h3 h4 h1 h1s
          go_wp2_with fail
          refine (C.out _ _ hb).mono ?_
          rw [H3.out, HQ.out]
          rintro e w2 ⟨rfl, hb2⟩
          have B2 := hid (hb.trans (hb2.mono hb.size))
          clear hb hb2
          go_wp2_with fail
          go_ret
          refine ⟨ret_bool ?_, B2.out⟩
          rw [leaves_hit hi (by simp [H1s.out, HQ.out])]; rfl
        | false =>
          have HQ := hid hq
          have H3 := hid h3; have H4 := hid h4; have H1 := hid h1; have H1s := hid h1s; have HL := hid hlt
          clear hq h3 h4 h1 h1s hlt
          go_wp2_with fail
          refine (C.out _ _ hb).mono ?_
          rw [H3.out, HQ.out]
          rintro e w2 ⟨rfl, hb2⟩
          have B2 := hid (hb.trans (hb2.mono hb.size))
          clear hb hb2
          go_wp2_with fail
          go_roundw
          case rel =>
            refine ⟨r &&& (r - 1#32), rfl, B2.out, hid ⟨?_, fun j hj hs hr => ?_⟩⟩
            · rw [H4.out]
              intro j hj hr
              rw [BitVec.getLsbD_and] at hr
              simp at hr
              exact H.out.1 j hj hr.1
            · rw [H4.out, BitVec.getLsbD_and, BitVec.getLsbD_not, bit_get i j hj] at hr
              by_cases e : j = i
              · subst e; exact HQ.out
              · refine H.out.2 j hj hs ?_
                simpa [hj, e] using hr
          case measure => have := HL.out; simp only [intOf, iv]; omega
end Go.Proofs.Ytpjcdiffigeajaa
