/- The walks of the two Minimal. -/
import Derived.Test.YtciamnkalmihcaaGWalk
import Derived.Test.YtciamnkalmihcaaTrans
namespace Go.Proofs.Ytciamnkalmihcaa
open Go.RowKit

theorem refHitsW (xs : List S) (s : S) (v : Value) (w : World) (hv : RdE enc w v xs) :
    Calls Try.prog 104 #[v, enc s] w fun e w' => e = .returned (.bool (hitsS xs s)) ∧ w = w' := refHits_any xs s v w hv

theorem refMinimal_any (xs : List S) (s : S) (v : Value) (w : World) (hv : RdE enc w v xs) :
    Calls Try.prog 79 #[v, enc s] w fun e w' => e = .returned (.bool (minS xs s)) ∧ w = w' := by
  have C := hid (fun s => refHitsW xs s v w hv)
  cases hh : hitsS xs s with
  | false =>
    have e : minS xs s = false := by simp [minS, hh]
    rw [e]; clear e
    have HH := hid hh
    clear hh
    unfold enc at *
    go_enter Try.func79, Try.ntmps79
    go_wp2_with fail
    refine (C.out s).mono ?_
    rw [HH.out]
    rintro e w' ⟨rfl, rfl⟩
    go_wp2_with fail
    go_ret
    exact ⟨rfl, rfl⟩
  | true =>
    have e : minS xs s = !leaves xs s 32 := by simp [minS, hh]
    rw [e]; clear e
    have HH := hid hh
    clear hh hv
    unfold enc at *
    go_enter Try.func79, Try.ntmps79
    go_wp2_with fail
    refine (C.out s).mono ?_
    rw [HH.out]
    rintro e w' ⟨rfl, rfl⟩
    go_wp2_with fail
    go_loop [5] (fun i => ∃ k : Nat, k ≤ 32 ∧ i = .int .i64 k ∧ Hid (leaves xs s k = false)) (fun i => 32 - (intOf i).toNat)
    case atStart => exact ⟨0, Nat.zero_le _, rfl, hid (leaves_zero _ _)⟩
    case round =>
      obtain ⟨k, hk, rfl, H⟩ := hrel
      by_cases hlt : k < 32
      · have hb := bit_and s k hlt
        cases hs : s.getLsbD k with
        | false =>
          rw [hs] at hb
          have HS := hid hs
          clear hs
          go_wp2_with fail
          go_round
          case rel => exact ⟨k + 1, by omega, by go_num, hid (leaves_next H.out (by simp [HS.out]))⟩
          case measure => simp [intOf]; omega
        | true =>
          rw [hs] at hb
          have HS := hid hs
          clear hs
          cases hq : hitsS xs (s &&& ~~~ bit k) with
          | true =>
            have HQ := hid hq
            clear hq
            go_wp2_with fail
            refine (C.out (s &&& ~~~ bit k)).mono ?_
            rw [HQ.out]
            rintro e w' ⟨rfl, rfl⟩
            go_wp2_with fail
            go_ret
            exact ⟨ret_bool (by rw [leaves_hit hlt (by simp [HS.out, HQ.out])]; rfl), rfl⟩
          | false =>
            have HQ := hid hq
            clear hq
            go_wp2_with fail
            refine (C.out (s &&& ~~~ bit k)).mono ?_
            rw [HQ.out]
            rintro e w' ⟨rfl, rfl⟩
            go_wp2_with fail
            go_round
            case rel => exact ⟨k + 1, by omega, by go_num, hid (leaves_next H.out (by simp [HS.out, HQ.out]))⟩
            case measure => simp [intOf]; omega
      · obtain rfl : k = 32 := by omega
        go_wp2_with fail
        go_ret
        exact ⟨ret_bool (by rw [H.out]; rfl), rfl⟩

end Go.Proofs.Ytciamnkalmihcaa
