/- The arguments of the laws, type by type, opened to the words that the laws are stated in. -/
import Derived.Test.YtcfcmalaabmceaaGreatDoorOpen
import Derived.Test.YtcfcmalaabmceaaGreatDoorProg
namespace Go.Proofs.YtcfcmalaabmceaaGreatDoor
open Go.ChangeShapes Go.WideShapes Go.ChangeAt Go.RowKit Go.Deep Go.Joins

set_option maxRecDepth 100000
section
variable {H : Type} {en : TypeId × Value → H} {W : World} {b : Nat} {v : Value} {d : DataW H} {p : List MemPlace}

theorem arg_int {t : TypeId} (ht : Tryz.prog.underlying t = some (.int .i64)) (hv : Value.okWide Tryz.prog W .any b t v) (h : DataW.Trod en Tryz.prog W 0 (fun _ => true) true t v d p) : ∃ n : Int, v = .int .i64 n ∧ -9223372036854775808 ≤ n ∧ n ≤ 9223372036854775807 := by
  obtain ⟨n, rfl, _, _, hw⟩ := open_int ht hv h
  exact ⟨n, rfl, i64_of hw⟩
theorem arg_set {t : TypeId} (ht : Tryz.prog.underlying t = some (.int .u32)) (hv : Value.okWide Tryz.prog W .any b t v) (h : DataW.Trod en Tryz.prog W 0 (fun _ => true) true t v d p) : ∃ s : S, v = .int .u32 (iv s) := by
  obtain ⟨n, rfl, _, _, hw⟩ := open_int ht hv h
  obtain ⟨s, hs⟩ := u32_of hw
  exact ⟨s, hs.symm⟩
theorem arg_u8 {t : TypeId} (ht : Tryz.prog.underlying t = some (.int .u8)) (hv : Value.okWide Tryz.prog W .any b t v) (h : DataW.Trod en Tryz.prog W 0 (fun _ => true) true t v d p) : ∃ s : U8, v = .int .u8 (s.toNat : Int) := by
  obtain ⟨n, rfl, _, _, hw⟩ := open_int ht hv h
  obtain ⟨s, hs⟩ := u8_of hw
  exact ⟨s, hs.symm⟩
theorem arg_fds (hv : Value.okWide Tryz.prog W .any b 38 v) (h : DataW.Trod en Tryz.prog W 0 (fun _ => true) true 38 v d p) : ArgC cF W v := by
  obtain ⟨a, l, c, rfl⟩ := okWide_slice Tryz.underlying38 hv
  obtain ⟨fuel, hf⟩ := h
  exact argC_pairs cF .u32 fd_of cF_length Tryz.underlying38 Tryz.underlying49 (by kernel_rfl) rfl rfl (by kernel_rfl) (by kernel_rfl) Tryz.underlying47 Tryz.underlying47 hf
theorem arg_fd (hv : Value.okWide Tryz.prog W .any b 49 v) (h : DataW.Trod en Tryz.prog W 0 (fun _ => true) true 49 v d p) : ∃ f : F, v = .agg #[enc f.1, enc f.2] :=
  arg_pair cF .u32 fd_of Tryz.underlying49 (by kernel_rfl) (by kernel_rfl) Tryz.underlying47 Tryz.underlying47 hv h
theorem arg_deps (hv : Value.okWide Tryz.prog W .any b 27 v) (h : DataW.Trod en Tryz.prog W 0 (fun _ => true) true 27 v d p) : ∃ (n : U8) (u : Value), v = .agg #[enc8 n, u] ∧ ArgC cD W u := by
  obtain ⟨v0, v1, y0, y1, n, rfl, _, _, h0, h1⟩ := open_agg2 Tryz.underlying27 (by kernel_rfl) (by kernel_rfl) hv h
  obtain ⟨n0, e0, _, w0⟩ := DataW.trod_int Tryz.underlying5 h0
  simp at e0
  obtain ⟨b0, hb⟩ := u8_of w0
  exact ⟨b0, v1, by rw [hb, e0], argC_pairs cD .u8 d8_of cD_length Tryz.underlying25 Tryz.underlying31 (by kernel_rfl) rfl rfl (by kernel_rfl) (by kernel_rfl) Tryz.underlying5 Tryz.underlying5 h1⟩
theorem arg_sets (hv : Value.okWide Tryz.prog W .any b 66 v) (h : DataW.Trod en Tryz.prog W 0 (fun _ => true) true 66 v d p) : ArgL enc W v := by
  obtain ⟨a, l, c, rfl⟩ := okWide_slice Tryz.underlying66 hv
  obtain ⟨fuel, hf⟩ := h
  exact argL_ints enc .u32 (fun n hn => u32_of hn) Tryz.underlying66 Tryz.underlying47 (by kernel_rfl) hf
theorem arg_dep (hv : Value.okWide Tryz.prog W .any b 31 v) (h : DataW.Trod en Tryz.prog W 0 (fun _ => true) true 31 v d p) : ∃ f : D8, v = .agg #[enc8 f.1, enc8 f.2] :=
  arg_pair cD .u8 d8_of Tryz.underlying31 (by kernel_rfl) (by kernel_rfl) Tryz.underlying5 Tryz.underlying5 hv h
end

end Go.Proofs.YtcfcmalaabmceaaGreatDoor
