/- The walks of cover's once and Split. -/
import Derived.Test.YtmlbmdcmedglaaaDoorEqF
import Derived.Test.YtmlbmdcmedglaaaDoorCov2
import Derived.Test.YtmlbmdcmedglaaaDoorCovL2
import Derived.Test.YtmlbmdcmedglaaaDoorTz
namespace Go.Proofs.YtmlbmdcmedglaaaDoor
open Go.RowKit

theorem onceStep_yes {out : List F} {x : F} (h : decide (x ∈ out) = true) : onceStep out x = out := by unfold onceStep; rw [if_pos (of_decide_eq_true h)]
theorem onceStep_no {out : List F} {x : F} (h : decide (x ∈ out) = false) : onceStep out x = out ++ [x] := by unfold onceStep; rw [if_neg (of_decide_eq_false h)]

theorem once_any (fs : List F) (v : Value) (w : World) (hv : RdF w v fs) (hl : fs.length < 1099511627776) :
    Calls Tryd.prog 62 #[v] w fun e w' => ∃ v', e = .returned v' ∧ w'.ownsRow w.heap.size 30 2 v' (onceF fs).length ((onceF fs).flatMap cF) ∧ Below w.heap.size w w' := by
  obtain ⟨ao, cap, rfl, -, hc⟩ := hv.split
  have FC := hid hc
  clear hv hc
  go_enter Tryd.func62, Tryd.ntmps62
  go_wp2_with fail
  go_loopw [3, 8] (fun o i wr => ∃ k : Nat, k ≤ fs.length ∧ i = .int .i64 k ∧ wr.ownsRow w.heap.size 30 2 o (onceF (fs.take k)).length ((onceF (fs.take k)).flatMap cF) ∧ Below w.heap.size w wr) (fun _ i _ => fs.length - (intOf i).toNat)
  case atStart => exact ⟨0, Nat.zero_le _, rfl, World.ownsRow_nil _ _ _ _, Below.refl _ _⟩
  case round =>
    obtain ⟨k, hk, rfl, hown, hnx⟩ := hrel
    have hsz := hnx.size
    have hol : (onceF (fs.take k)).length ≤ k := Nat.le_trans (onceF_length _) (by simp; omega)
    by_cases hlt : k < fs.length
    · obtain ⟨f, hf⟩ := get_some hlt
      obtain ⟨b, off, rfl, hfc⟩ := FC.out k f hf
      obtain ⟨e0, e1⟩ := hfc wr hnx
      have N := hid (onceF_next hf)
      have C := hid (fun (W : World) (h : RdF W u3 (onceF (fs.take k))) => containsF_any (onceF (fs.take k)) f u3 W h)
      clear hfc hf
      generalize onceF (fs.take k) = out at *
      have hb1 := below_alloc wr (.cells #[enc f.1, enc f.2] 30)
      have R1 := hid ((RdC.of_owns cF_length hown (by omega)).below hb1)
      have ho1 := own_below hown hb1
      have hn1 := hnx.trans (hb1.mono hsz)
      have hc0 : (wr.alloc (.cells #[enc f.1, enc f.2] 30)).cell? ⟨wr.heap.size, 0, none⟩ = some (.int .u32 (iv f.1)) := by simp [enc]
      have hc1 : (wr.alloc (.cells #[enc f.1, enc f.2] 30)).cell? ⟨wr.heap.size, 1, none⟩ = some (.int .u32 (iv f.2)) := by simp [enc]
      have H2 := hid (held2 hc0 hc1)
      simp only [enc_eq] at C R1 ho1 hn1 H2
      cases hq : decide (f ∈ out) with
      | true =>
        have N2 := hid (N.out.trans (onceStep_yes hq))
        rw [hq] at C
        clear hq N hb1 hc0 hc1
        go_wp2_with fail
        refine (C.out _ R1.out).mono ?_
        rintro e w2 ⟨rfl, hb2⟩
        have ho2 := own_below ho1 hb2
        have hn2 := hn1.trans (hb2.mono hn1.size)
        clear hb2 ho1 hn1 hown hnx e0 e1
        go_wp2_with fail
        go_roundw
        case rel => exact ⟨k + 1, by omega, by go_num, by rw [N2.out]; exact ho2, hn2⟩
        case measure => simp [intOf]; omega
      | false =>
        have N2 := hid (N.out.trans (onceStep_no hq))
        rw [hq] at C
        clear hq N hb1 hc0 hc1
        go_wp2_with fail
        refine (C.out _ R1.out).mono ?_
        rintro e w2 ⟨rfl, hb2⟩
        obtain ⟨-, e2, e3⟩ := H2.out w2 hb2
        have ho2 := own_below ho1 hb2
        have hn2 := hn1.trans (hb2.mono hn1.size)
        have hs2 := hn2.size
        clear hb2 ho1 hn1 hown hnx e0 e1
        go_wp2_with (at_builtin; refine wpList_pushC rfl _ _ 24 rfl w.heap.size 30 (.agg #[.int .u32 0, .int .u32 0]) 2 8 undFDs infoFD rfl (by decide) (by decide) cF cF_length cF_one _ out rfl (ho2.alloc _) ⟨w2.heap.size, 0, none⟩ f rfl (cells_newF _ _) (by omega) (by simp; omega) ?_)
        intro v' w3 hown' hgrow
        have hb3 : Below w.heap.size w w3 := below_push hn2 hs2 ho2 hgrow
        clear hgrow ho2 hn2 e2 e3
        go_wp2_with fail
        go_roundw
        case rel => exact ⟨k + 1, by omega, by go_num, by rw [N2.out]; simpa using hown', hb3⟩
        case measure => simp [intOf]; omega
    · rw [take_all hlt] at hown
      go_wp2_with fail
      go_ret
      exact ⟨_, rfl, hown, hnx⟩

end Go.Proofs.YtmlbmdcmedglaaaDoor
