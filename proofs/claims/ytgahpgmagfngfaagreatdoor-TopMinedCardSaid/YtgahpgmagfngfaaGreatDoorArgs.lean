/- The arguments of the laws, type by type, opened to the words that the laws are stated in. -/
import Derived.Test.YtgahpgmagfngfaaGreatDoorOpen
import Derived.Test.YtgahpgmagfngfaaGreatDoorProg
namespace Go.Proofs.YtgahpgmagfngfaaGreatDoor
open Go.ChangeShapes Go.WideShapes Go.ChangeAt Go.RowKit Go.Deep Go.Joins

set_option maxRecDepth 100000
section
variable {H : Type} {en : TypeId × Value → H} {W : World} {b : Nat} {v : Value} {d : DataW H} {p : List MemPlace}

theorem arg_int {t : TypeId} (ht : Tryz.prog.underlying t = some (.int .i64)) (hv : Value.okWide Tryz.prog W .any b t v) (h : DataW.Trod en Tryz.prog W 0 (fun _ => true) true t v d p) : ∃ n : Int, v = .int .i64 n ∧ -9223372036854775808 ≤ n ∧ n ≤ 9223372036854775807 := by
  obtain ⟨n, rfl, _, _, hw⟩ := open_int ht hv h
  exact ⟨n, rfl, i64_of hw⟩
theorem arg_set {t : TypeId} (ht : Tryz.prog.underlying t = some (.int .u32)) (hv : Value.okWide Tryz.prog W .any b t v) (h : DataW.Trod en Tryz.prog W 0 (fun _ => true) true t v d p) : ∃ s : S, v = .int .u32 (iv s) := by
  obtain ⟨n, rfl, _, _, hw⟩ := open_int ht hv h
  obtain ⟨s, hs⟩ := u32_of hw
  exact ⟨s, hs.symm⟩
theorem arg_u8 {t : TypeId} (ht : Tryz.prog.underlying t = some (.int .u8)) (hv : Value.okWide Tryz.prog W .any b t v) (h : DataW.Trod en Tryz.prog W 0 (fun _ => true) true t v d p) : ∃ s : U8, v = .int .u8 (s.toNat : Int) := by
  obtain ⟨n, rfl, _, _, hw⟩ := open_int ht hv h
  obtain ⟨s, hs⟩ := u8_of hw
  exact ⟨s, hs.symm⟩
theorem arg_fds (hv : Value.okWide Tryz.prog W .any b 58 v) (h : DataW.Trod en Tryz.prog W 0 (fun _ => true) true 58 v d p) : ArgC cF W v := by
  obtain ⟨a, l, c, rfl⟩ := okWide_slice Tryz.underlying58 hv
  obtain ⟨fuel, hf⟩ := h
  exact argC_pairs cF .u32 fd_of cF_length Tryz.underlying58 Tryz.underlying57 (by kernel_rfl) rfl rfl (by kernel_rfl) (by kernel_rfl) Tryz.underlying55 Tryz.underlying55 hf
theorem arg_fd (hv : Value.okWide Tryz.prog W .any b 57 v) (h : DataW.Trod en Tryz.prog W 0 (fun _ => true) true 57 v d p) : ∃ f : F, v = .agg #[enc f.1, enc f.2] :=
  arg_pair cF .u32 fd_of Tryz.underlying57 (by kernel_rfl) (by kernel_rfl) Tryz.underlying55 Tryz.underlying55 hv h
theorem arg_sets (hv : Value.okWide Tryz.prog W .any b 59 v) (h : DataW.Trod en Tryz.prog W 0 (fun _ => true) true 59 v d p) : ArgL enc W v := by
  obtain ⟨a, l, c, rfl⟩ := okWide_slice Tryz.underlying59 hv
  obtain ⟨fuel, hf⟩ := h
  exact argL_ints enc .u32 (fun n hn => u32_of hn) Tryz.underlying59 Tryz.underlying55 (by kernel_rfl) hf
end

end Go.Proofs.YtgahpgmagfngfaaGreatDoor
