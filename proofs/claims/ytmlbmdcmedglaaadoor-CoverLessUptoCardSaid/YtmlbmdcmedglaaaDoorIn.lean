/- The walk of the reference's In. -/
import Derived.Test.YtmlbmdcmedglaaaDoorRef02
import Derived.Shelf.Abstract
namespace Go.Proofs.YtmlbmdcmedglaaaDoor
open Go.RowKit

theorem enters (f : Nat) (fn : Func) (c : Code) (hf : Tryd.prog.funcs[f]? = some fn) (hn : (fn.name == "runtime.NumGoroutine") = false) (hb : fn.body = some c) (args : Array Value) (w : World) :
    (callFunc f args).run Tryd.prog w = .ok (.enter f args) w := enters_of hf hn hb args w

theorem cell_new {w : World} {v : Value} {t : TypeId} : (w.alloc (.cells #[v] t)).cell? ⟨w.heap.size, 0, none⟩ = some v := by simp

/-- In. -/
theorem in_any (xs : List S) (s : S) (v : Value) (w : World) (hv : RdE enc w v xs) :
    Calls Tryd.prog 90 #[v, enc s] w fun e w' => e = .returned (.bool (xs.any (· == s))) ∧ w = w' := by
  obtain ⟨ao, cap, rfl, h1, h2, h3⟩ := hv
  unfold enc at h3 ⊢
  go_enter Tryd.func90, Tryd.ntmps90
  go_wp2
  go_loop [5] (fun i => ∃ k : Nat, k ≤ xs.length ∧ i = .int .i64 k ∧ Hid ((xs.take k).any (· == s) = false)) (fun i => xs.length - (intOf i).toNat)
  case atStart => exact ⟨0, Nat.zero_le _, rfl, hid rfl⟩
  case round =>
    obtain ⟨k, hk, rfl, H⟩ := hrel
    by_cases hlt : k < xs.length
    · obtain ⟨b, off, rfl, hb, hc⟩ := h3 (by omega)
      obtain ⟨x, hx⟩ := get_some hlt
      have e1 := hc k x hx
      clear hc h3
      have X := hid hx
      clear hx
      go_wp2
      · have hn : (x == s) = true := by assumption
        go_ret
        exact ⟨ret_bool (any_hit X.out hn).symm, rfl⟩
      · have hn : (x == s) = false := by assumption
        go_round
        case rel => exact ⟨k + 1, by omega, by go_num, hid (none_next X.out hn H.out)⟩
        case measure => simp [intOf]; omega
    · go_wp2
      go_ret
      exact ⟨ret_bool (any_end H.out hlt).symm, rfl⟩

end Go.Proofs.YtmlbmdcmedglaaaDoor
