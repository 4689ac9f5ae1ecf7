/- The walks of the reference's layer 2: Has, Full, In, Same. -/
import Derived.Test.YtmlbmdcmedglaaaDoorProg
import Derived.Test.YtmlbmdcmedglaaaDoorFullL
import Derived.Deep.QuietTactic
import Derived.BigQuiet
namespace Go.Proofs.YtmlbmdcmedglaaaDoor
open Go.RowKit

theorem ret_bool {a b : Bool} (h : a = b) : Ending.returned (.bool a) = .returned (.bool b) := by rw [h]
theorem ret_int {k : IntKind} {a b : Int} (h : a = b) : Ending.returned (.int k a) = .returned (.int k b) := by rw [h]

theorem bit_test (s : S) (k : Nat) : ((iv (s >>> k &&& 1#32)) == 1) = s.getLsbD k := by
  have h1 : (1 : Int) = iv 1#32 := by decide
  rw [h1, iv_beq, Bool.eq_iff_iff, beq_iff_eq]
  constructor
  · intro h
    have := congrArg (fun x : S => x.getLsbD 0) h
    simpa using this
  · intro h
    apply BitVec.eq_of_getLsbD_eq
    intro i hi
    cases i with
    | zero => simpa using h
    | succ i => simp [BitVec.getLsbD_one]

set_option maxHeartbeats 400000 in
theorem has_any (s : S) (k : Nat) (hk : k < 32) (w : World) :
    Calls Tryd.prog 63 #[enc s, .int .i64 k] w fun e w' => e = .returned (.bool (s.getLsbD k)) ∧ w = w' := by
  unfold enc
  go_enter Tryd.func63, Tryd.ntmps63
  go_wp2
  go_ret
  exact ⟨ret_bool (by first | exact bit_test s k | simp [bit_test]), rfl⟩

set_option maxHeartbeats 400000 in
theorem full_any (n : Int) (w : World) :
    Calls Tryd.prog 43 #[.int .i64 n] w fun e w' => e = .returned (enc (fullN (min n.toNat 32))) ∧ w = w' := by
  unfold enc
  go_enter Tryd.func43, Tryd.ntmps43
  go_wp2
  go_loop [3, 4] (fun t i => ∃ k : Nat, k ≤ min n.toNat 32 ∧ i = .int .i64 k ∧ t = .int .u32 (iv (fullN k))) (fun _ i => 32 - (intOf i).toNat)
  case atStart => exact ⟨0, Nat.zero_le _, rfl, rfl⟩
  case round =>
    obtain ⟨k, hk, rfl, rfl⟩ := hrel
    by_cases hlt : (k : Int) < n
    · by_cases hl2 : k < 32
      · go_wp2
        go_round
        case rel => exact ⟨k + 1, by omega, by go_num, rfl⟩
        case measure => simp [intOf]; omega
      · go_wp2
        go_ret
        exact ⟨by rw [show min n.toNat 32 = k by omega]; rfl, rfl⟩
    · go_wp2
      go_ret
      exact ⟨by rw [show min n.toNat 32 = k by omega]; rfl, rfl⟩

end Go.Proofs.YtmlbmdcmedglaaaDoor
