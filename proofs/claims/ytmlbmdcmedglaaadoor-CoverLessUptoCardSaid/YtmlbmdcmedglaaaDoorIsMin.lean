/- The walk of cover's IsMinimal. -/
import Derived.Test.YtmlbmdcmedglaaaDoorCov3
namespace Go.Proofs.YtmlbmdcmedglaaaDoor
open Go.RowKit

/-- What bars the dependency i of a list from being part of a minimal list. -/
noncomputable def badB (fs : List F) (i : Nat) : Bool :=
  (pop (fs.getD i (0#32, 0#32)).2 != 1) || ((fs.getD i (0#32, 0#32)).2 &&& (fs.getD i (0#32, 0#32)).1 != 0#32) || redB fs i || (extSet fs (fs.getD i (0#32, 0#32)) != 0#32)
noncomputable def isMinB (fs : List F) : Bool := !(List.range fs.length).any (badB fs)
theorem badB_at {fs : List F} {i : Nat} {x : F} (h : fs[i]? = some x) : badB fs i = ((pop x.2 != 1) || (x.2 &&& x.1 != 0#32) || redB fs i || (extSet fs x != 0#32)) := by
  unfold badB; simp [List.getD, h]

set_option maxHeartbeats 1600000 in
theorem isMinimal_any (fs : List F) (v : Value) (w : World) (hT : Tab w) (hv : RdF w v fs) (hl : fs.length < 1099511627776) :
    Calls Tryd.prog 59 #[v] w fun e w' => e = .returned (.bool (isMinB fs)) ∧ Below w.heap.size w w' := by
  have RE := hid (fun (i : Nat) (hi : i < fs.length) (W : World) (h : Below w.heap.size w W) => redundant_any fs i hi v W (hv.below h) hl)
  have EX := hid (fun (i : Int) (W : World) (h : Below w.heap.size w W) => extraneousS_any fs i v W (hT.below h) (hv.below h))
  have SZ := hid (fun (s : S) (W : World) => asize_any s W)
  obtain ⟨ao, cap, rfl, hcl, hc⟩ := hv.split
  have FC := hid hc
  clear hv hT hc
  have go : ∀ r : Bool, isMinB fs = r → Calls Tryd.prog 59 #[.slice ao fs.length cap] w fun e w' => e = .returned (.bool r) ∧ Below w.heap.size w w' := by
    intro r hr
    have R := hid hr
    clear hr
    simp only [enc_eq] at EX SZ
    go_enter Tryd.func59, Tryd.ntmps59
    go_wp2_with fail
    go_loopw [9] (fun i wr => ∃ k : Nat, k ≤ fs.length ∧ i = .int .i64 k ∧ Hid (((List.range fs.length).take k).any (badB fs) = false) ∧ Below w.heap.size w wr) (fun i _ => fs.length - (intOf i).toNat)
    case atStart => exact ⟨0, Nat.zero_le _, rfl, hid rfl, Below.refl _ _⟩
    case round =>
      obtain ⟨k, hk, rfl, H, hnx⟩ := hrel
      by_cases hlt : k < fs.length
      · obtain ⟨x, hx⟩ := get_some hlt
        have KR := hid (range_next hlt)
        have BA := hid (badB_at hx)
        obtain ⟨b, off, rfl, hfc⟩ := FC.out k x hx
        obtain ⟨e0, e1⟩ := hfc wr hnx
        have HB := hid (below_alloc wr (.cells #[.int .u32 (iv x.1), .int .u32 (iv x.2)] 30))
        have hn1 := hnx.trans (HB.out.mono hnx.size)
        have N1 := hid hn1
        have S1 := hid (SZ.out x.2)
        have RE1 := hid (RE.out k hlt)
        have EX1 := hid (EX.out k)
        rw [show exE fs k = 0 by unfold exE; rw [if_neg (by omega)], exS_at hx] at EX1
        -- a bad one ends the loop
        have BAD := hid (fun (h : badB fs k = true) => show false = r by
          rw [← R.out]; unfold isMinB; rw [any_hit KR.out h]; rfl)
        have GOOD := hid (fun (h : badB fs k = false) => none_next KR.out h H.out)
        clear hfc hx hnx hn1
        generalize pop x.2 = p at *
        generalize extSet fs x = s at *
        generalize redB fs k = q at *
        cases h1 : (p != 1) with
        | true =>
          have hp : ((p : Int) != 1) = true := by
            have h1' : p ≠ 1 := by simpa using h1
            simp; omega
          have B := hid (BAD.out (by rw [BA.out, h1]; rfl))
          clear h1 BAD GOOD BA
          go_wp2_with fail
          refine (S1.out _).mono ?_
          rintro e w2 ⟨rfl, n, rfl⟩
          go_wp2_with fail
          go_ret
          exact ⟨ret_bool B.out, below_drewN' N1.out _⟩
        | false =>
          have hp : ((p : Int) != 1) = false := by
            have h1' : p = 1 := by simpa using h1
            rw [h1']; rfl
          cases h2 : (x.2 &&& x.1 != 0#32) with
          | true =>
            have B := hid (BAD.out (by rw [BA.out, h1, h2]; rfl))
            clear h1 BAD GOOD BA
            go_wp2_with fail
            refine (S1.out _).mono ?_
            rintro e w2 ⟨rfl, n, rfl⟩
            go_wp2_with fail
            go_ret
            exact ⟨ret_bool B.out, below_drewN' N1.out _⟩
          | false =>
            cases q with
            | true =>
              have B := hid (BAD.out (by rw [BA.out, h1, h2]; rfl))
              clear h1 BAD GOOD BA
              go_wp2_with fail
              refine (S1.out _).mono ?_
              rintro e w2 ⟨rfl, n, rfl⟩
              go_wp2_with fail
              refine (RE1.out _ (below_drewN' N1.out _)).mono ?_
              rintro e w3 ⟨rfl, hb3⟩
              have B3 := hid ((below_drewN' N1.out n).trans (hb3.mono (below_drewN' N1.out n).size))
              clear hb3
              go_wp2_with fail
              go_ret
              exact ⟨ret_bool B.out, B3.out⟩
            | false =>
              cases h3 : (s != 0#32) with
              | true =>
                have B := hid (BAD.out (by rw [BA.out, h1, h2, h3]; rfl))
                clear h1 BAD GOOD BA
                go_wp2_with fail
                refine (S1.out _).mono ?_
                rintro e w2 ⟨rfl, n, rfl⟩
                go_wp2_with fail
                refine (RE1.out _ (below_drewN' N1.out _)).mono ?_
                rintro e w3 ⟨rfl, hb3⟩
                have B3 := hid ((below_drewN' N1.out n).trans (hb3.mono (below_drewN' N1.out n).size))
                clear hb3
                go_wp2_with fail
                refine (EX1.out _ B3.out).mono ?_
                rintro e w4 ⟨rfl, hb4⟩
                have B4 := hid (B3.out.trans (hb4.mono B3.out.size))
                clear hb4
                go_wp2_with fail
                go_ret
                exact ⟨ret_bool B.out, B4.out⟩
              | false =>
                have G := hid (GOOD.out (by rw [BA.out, h1, h2, h3]; rfl))
                clear h1 BAD GOOD BA
                go_wp2_with fail
                refine (S1.out _).mono ?_
                rintro e w2 ⟨rfl, n, rfl⟩
                go_wp2_with fail
                refine (RE1.out _ (below_drewN' N1.out _)).mono ?_
                rintro e w3 ⟨rfl, hb3⟩
                have B3 := hid ((below_drewN' N1.out n).trans (hb3.mono (below_drewN' N1.out n).size))
                clear hb3
                go_wp2_with fail
                refine (EX1.out _ B3.out).mono ?_
                rintro e w4 ⟨rfl, hb4⟩
                have B4 := hid (B3.out.trans (hb4.mono B3.out.size))
                clear hb4
                go_wp2_with fail
                go_roundw
                case rel => exact ⟨k + 1, by omega, by go_num, G, B4.out⟩
                case measure => simp [intOf]; omega
      · have HF := H.out
        rw [List.take_of_length_le (by simp; omega)] at HF
        have B := hid (show true = r by rw [← R.out]; unfold isMinB; rw [HF]; rfl)
        clear HF
        go_wp2_with fail
        go_ret
        exact ⟨ret_bool B.out, hnx⟩
  exact go _ rfl

end Go.Proofs.YtmlbmdcmedglaaaDoor
