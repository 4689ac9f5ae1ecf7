/- The walks of cover's extraneous and redundant. -/
import Derived.Test.YtmlbmdcmedglaaaDoorCov
import Derived.Test.YtmlbmdcmedglaaaDoorAfter
namespace Go.Proofs.YtmlbmdcmedglaaaDoor
open Go.RowKit

theorem extraneous_any (fs : List F) (x : F) (a : Nat) (ha : a < 32) (v : Value) (w : World) (hv : RdF w v fs) :
    Calls Tryd.prog 74 #[v, .agg #[enc x.1, enc x.2], .int .i64 a] w fun e w' => e = .returned (.bool (extrB fs x a)) ∧ Below w.heap.size w w' := by
  have hb := below_alloc w (.cells #[enc x.1, enc x.2] 30)
  have C := hid (fun i : After (w.alloc (.cells #[enc x.1, enc x.2] 30)) => Calls.after i (implies_any fs (x.1 &&& ~~~ (1#32 <<< a), x.2) v i.world ((hv.below hb).below i.below)))
  obtain ⟨ao, cap, rfl, -⟩ := hv.split
  have e : extrB fs x a = impS fs (x.1 &&& ~~~ (1#32 <<< a), x.2) := rfl
  rw [e]
  have B := hid hb
  clear e hb hv
  generalize impS fs (x.1 &&& ~~~ (1#32 <<< a), x.2) = r at *
  have e0 : ∀ i : After (w.alloc (.cells #[enc x.1, enc x.2] 30)), i.world.cell? ⟨w.heap.size, 0, none⟩ = some (.int .u32 (iv x.1)) := fun i => After.cell (by simp [enc]) i
  have e1 : ∀ i : After (w.alloc (.cells #[enc x.1, enc x.2] 30)), i.world.cell? ⟨w.heap.size, 1, none⟩ = some (.int .u32 (iv x.2)) := fun i => After.cell (by simp [enc]) i
  have a0 : (0 : Int) ≤ (a : Int) := by omega
  unfold enc at *
  go_enter Tryd.func74, Tryd.ntmps74
  go_wp2_with fail
  refine wp_region_after (by kernel_rfl) (by kernel_rfl) ?_
  repeat (any_goals (quiet_step (exact C.out _)))
  refine wpQuiet_nil ?_
  intro wq hq
  have BQ := hid (B.out.trans (hq.mono B.out.size))
  clear hq
  go_wp2_with fail
  go_ret
  exact ⟨rfl, BQ.out⟩

theorem redundant_any (fs : List F) (i : Nat) (hi : i < fs.length) (v : Value) (w : World) (hv : RdF w v fs) (hl : fs.length < 1099511627776) :
    Calls Tryd.prog 73 #[v, .int .i64 i] w fun e w' => e = .returned (.bool (redB fs i)) ∧ Below w.heap.size w w' := by
  have C1 := hid (fun (W : World) (hb : Below w.heap.size w W) => others_any fs i hi v W (hv.below hb) hl)
  obtain ⟨f, hf⟩ := get_some hi
  have C2 := hid (fun (u : Value) (W : World) (hu : RdF W u (othersF fs i)) => implies_any (othersF fs i) f u W hu)
  rw [redB_at hf]
  have hol := others_length hi
  obtain ⟨ao, cap, rfl, -, hc⟩ := hv.split
  obtain ⟨b, off, rfl, hfc⟩ := hc i f hf
  have HS := hid (fun (W : World) (h : Below w.heap.size w W) => And.intro h (hfc W h))
  have hlt : (i : Int) < (fs.length : Int) := by omega
  have hi0 : (0 : Int) ≤ (i : Int) := by omega
  have RO := hid (fun (u : Value) (W : World) (B : Nat) (h : W.ownsRow B 30 2 u (othersF fs i).length ((othersF fs i).flatMap cF)) => RdC.of_owns cF_length h (by omega))
  clear hv hc hfc hf hol hi
  generalize othersF fs i = gs at *
  generalize impS gs f = r at *
  simp only [enc_eq] at C2
  go_enter Tryd.func73, Tryd.ntmps73
  go_wp2_with fail
  go_region_held3 (fun W => Below w.heap.size w W ∧ W.cell? ⟨b, off + i * 2, none⟩ = some (.int .u32 (iv f.1)) ∧ W.cell? ⟨b, off + i * 2 + 1, none⟩ = some (.int .u32 (iv f.2)))
    (first | exact HS.out _ (Below.refl _ _).drew | exact HS.out _ (by assumption))
    (first
      | (go_at_call 92; have hS := And.left ‹Below w.heap.size w _ ∧ _ ∧ _›; refine (C1.out _ hS).mono ?_; rintro e w2 ⟨v2, rfl, ho2, hb2⟩; have hL := later hS hb2; have hr2 := RO.out _ _ _ ho2; clear hb2 hS ho2)
      | (go_at_call 81; have hS := And.left ‹Below w.heap.size w _ ∧ _ ∧ _›; refine (C2.out _ _ (by assumption)).mono ?_; rintro e w3 ⟨rfl, hb3⟩; have hL := later hS hb3; clear hb3 hS))
  all_goals
    have HL := hid hL
    clear hL
    go_wp2_with fail
    go_ret
    exact ⟨rfl, HL.out⟩

end Go.Proofs.YtmlbmdcmedglaaaDoor
