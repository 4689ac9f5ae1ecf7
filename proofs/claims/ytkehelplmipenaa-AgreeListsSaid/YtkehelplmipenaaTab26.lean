/- The law AgreeLists. -/
import Derived.Test.YtkehelplmipenaaTab25
import Derived.Test.YtkehelplmipenaaOpen
import Derived.StillTailTactics
import Derived.Deep.RegionHeld3
namespace Go.Proofs.Ytkehelplmipenaa
open Go.RowKit

theorem flatC_set : ∀ (xs : List C2) (i : Nat) (x : C2) (a : S), xs[i]? = some x → (xs.flatMap cC).set (i * 2) (.int .u32 (iv a)) = (xs.set i (a, x.2)).flatMap cC := by
  intro xs
  induction xs with
  | nil => intro i x a h; simp at h
  | cons y ys ih =>
    intro i x a h
    cases i with
    | zero => simp at h; subst h; rfl
    | succ i =>
      have := ih i x a (by simpa using h)
      rw [show (i + 1) * 2 = i * 2 + 1 + 1 by omega]
      show enc y.1 :: Value.int .i64 y.2 :: (ys.flatMap cC).set (i * 2) _ = _
      rw [this]; rfl
theorem u8mod (b : U8) (m : Nat) : ((b.toNat : Int)).tmod (m : Int) = ((b.toNat % m : Nat) : Int) := by rw [Int.tmod_eq_emod_of_nonneg (by omega)]; rfl

set_option maxHeartbeats 400000 in
set_option maxRecDepth 100000 in
theorem gListsL (l : List C2) (v : Value) (f : F) (b : U8) (w : World) (hv : RdCt w v l) :
    Calls Try.prog 9 #[v, .agg #[.int .u32 (iv f.1), .int .u32 (iv f.2)], .int .u8 (b.toNat : Int)] w fun e w' => e = .returned (.bool true) ∧ Below w.heap.size w w' := by
  have hb0 := below_alloc w (.cells #[.int .u32 (iv f.1), .int .u32 (iv f.2)] 58)
  have F2 := hid (fun W h => cells2 (w := w) (a := .int .u32 (iv f.1)) (b := .int .u32 (iv f.2)) (t := 58) W h)
  have L0 := hid (RdC.below hv hb0)
  obtain ⟨w0, hw0⟩ : ∃ w0 : World, w.alloc (.cells #[.int .u32 (iv f.1), .int .u32 (iv f.2)] 58) = w0 := ⟨_, rfl⟩
  rw [hw0] at hb0 F2 L0
  have B0 := hid hb0
  have W0 := hid hw0
  have hsz0 := hb0.size
  have D0 := hid (Below.refl w0.heap.size w0)
  obtain ⟨lo, lcap, rfl, hll, -⟩ := RdCt.split hv
  have AW := hid (fun (W : World) => awake27_any W)
  clear hb0 hw0 hv
  by_cases h12 : l.length ≤ 12
  · have hd : decide ((l.length : Int) > 12) = false := by simp; omega
    have K17 : b.toNat % 17 ≤ 16 := by omega
    have UM := u8mod b 17
    have UM2 : (b.toNat : Int) % 17 = ((b.toNat % 17 : Nat) : Int) := by omega
    have CL := hid (fun (u : Value) (W : World) (h : RdCt W u l) => cloneC_any l u W h (by omega))
    obtain ⟨K, hK⟩ : ∃ K, b.toNat % 17 = K := ⟨_, rfl⟩
    rw [hK] at UM UM2 K17
    have hK0 : (0 : Int) ≤ (K : Int) := by omega
    have hbb : (b.toNat : Int) ≤ 255 := by have := b.isLt; omega
    have hb00 : (0 : Int) ≤ (b.toNat : Int) := by omega
    have FU := hid (full_any (K : Int))
    rw [show min (K : Int).toNat 32 = K by omega] at FU
    simp only [enc_eq] at FU
    generalize (b.toNat : Int) = bi at *
    have J2 := hid (fun (u : Value) (W : World) (h : RdCt W u l) => aholds_any l f u W h)
    have J3 := hid (fun (u : Value) (W : World) (h : RdCt W u l) => rholds_any l f u W h)
    have J4 := hid (fun (m : List C2) (s : S) (u : Value) (W : World) (h : RdCt W u m) => aclos_any m K K17 s u W h)
    have J5 := hid (fun (m : List C2) (s : S) (u : Value) (W : World) (h : RdCt W u m) => rclos_any m K K17 s u W h)
    have CM := hid (fun (m : List C2) (hm : m.length ≤ 12) (u : Value) (W : World) (h : RdCt W u m) => (cloneC_any m u W h (by omega)).mono fun _ _ ⟨v', he, ho, hb⟩ => (⟨v', he, RdC.of_owns cC_length ho (by omega), hb⟩ : ∃ v', _ = _ ∧ RdCt _ v' m ∧ _))
    generalize fullN K = fu at *
    clear hK
    go_enter Try.func9, Try.ntmps9
    go_wp2_with fail
    rw [W0.out]
    refine (AW.out _).mono ?_
    rintro e w1 ⟨rfl, hb1⟩
    have D1 := hid hb1
    have R1 := hid (L0.out.below hb1)
    clear hb1
    go_wp2_with fail
    refine (CL.out _ _ R1.out).mono ?_
    rintro e w2 ⟨v2, rfl, hown, hb2⟩
    have D2 := hid (D1.out.trans (hb2.mono D1.out.size))
    have hs1 := D1.out.size
    have HO := hid hown
    have BW2 := hid hb2
    obtain ⟨mo, mcap, rfl, -⟩ := RdCt.split (RdC.of_owns cC_length hown (by omega))
    clear hown hb2
    obtain ⟨g, hg⟩ : ∃ g : C2 → C2, (fun c : C2 => (c.1 &&& fu, c.2)) = g := ⟨_, rfl⟩
    have GG := hid (show ∀ c : C2, g c = (c.1 &&& fu, c.2) from fun c => by rw [← hg])
    clear hg
    go_wp2_with fail
    rw [UM2]
    clear UM UM2
    go_loopw [26] (fun i wr => ∃ k : Nat, k ≤ l.length ∧ i = .int .i64 k ∧ wr.ownsRow w1.heap.size 35 2 (.slice mo l.length mcap) l.length (((l.take k).map g ++ l.drop k).flatMap cC) ∧ Below w1.heap.size w1 wr) (fun i _ => l.length - (intOf i).toNat)
    case atStart => exact ⟨0, Nat.zero_le _, rfl, by simpa using HO.out, BW2.out⟩
    case round =>
      obtain ⟨k, hk, rfl, hown, hnx⟩ := hrel
      have hsz := hnx.size
      have k0 : (0 : Int) ≤ (k : Int) := by omega
      by_cases hlt : k < l.length
      · obtain ⟨x, hx⟩ := get_some hlt
        obtain ⟨gb, gcap, hform⟩ : ∃ gb gcap, Value.slice mo l.length mcap = .slice (some ⟨gb, 0, none⟩) l.length gcap := by
          rcases hown.2 with ⟨h1, h2⟩ | ⟨g', cap', cur, hv, _⟩
          · omega
          · exact ⟨g', cap', hv⟩
        simp only [Value.slice.injEq] at hform
        obtain ⟨rfl, -, rfl⟩ := hform
        have hgb := hown.lt gb rfl
        have hcell : wr.cell? ⟨gb, k * 2, none⟩ = some (.int .u32 (iv x.1)) := (hown.cellAt (k * 2) (by omega)).trans (flat_at cC_length _ k x 0 _ (mapTo_at g hx) rfl)
        have hfz : wr.frozen? ⟨gb, k * 2, none⟩ = false := hown.frozenAt _
        have ST := hown.stored (k * 2) (.int .u32 (iv (x.1 &&& fu)))
        have S1 := hid (show (wr.setCell ⟨gb, k * 2, none⟩ (.int .u32 (iv (x.1 &&& fu)))).ownsRow w1.heap.size 35 2 (.slice (some ⟨gb, 0, none⟩) l.length mcap) l.length (((l.take (k + 1)).map g ++ l.drop (k + 1)).flatMap cC) by
          rw [← mapTo_next g hx, GG.out x, ← flatC_set _ k x _ (mapTo_at g hx)]; exact ST.1)
        have S2 := hid (hnx.grown ST.2 hnx.size (fun j hj => by cases hj; exact hgb.1))
        clear ST hown hnx hx
        go_wp2_with fail
        refine wp_region_still_tail 10 (by kernel_rfl) (by kernel_rfl) ?_
        simp only [List.take_succ_cons, List.take_zero, List.drop_succ_cons, List.drop_zero]
        repeat still_step
        still_call ((FU.out _).mono (fun _ _ h => ⟨h.1, h.2.symm⟩))
        repeat still_step
        refine wpStill_nil ?_
        go_wp2_with fail
        go_roundw
        case rel => exact ⟨k + 1, by omega, by go_num, S1.out.drew, S2.out.drew⟩
        case measure => simp [intOf]; omega
      · rw [List.take_of_length_le (by omega), List.drop_eq_nil_of_le (by omega), List.append_nil] at hown
        have RM := hid (show RdCt wr (.slice mo l.length mcap) (l.map g) from RdC.of_owns cC_length (by rw [List.length_map]; exact hown) (by rw [List.length_map]; omega))
        have RL := hid (RdC.below R1.out hnx)
        have DN := hid (D1.out.trans (hnx.mono hs1))
        obtain ⟨f0, f1⟩ := F2.out _ DN.out
        have hml : (l.map g).length ≤ 12 := by rw [List.length_map]; exact h12
        generalize l.map g = M at *
        clear hown hnx
        go_wp2_with fail
        go_quiet ((go_at_call 24; exact Calls.quiet_of_same ((FU.out _).mono (fun _ _ h => ⟨h.1, h.2.symm⟩))))
        rename Nat => nq
        have hbq := below_drewN wr.heap.size wr nq
        replace RM := hid (RdC.below RM.out hbq)
        replace RL := hid (RdC.below RL.out hbq)
        replace DN := hid (DN.out.trans (hbq.mono DN.out.size))
        obtain ⟨w5, hw5⟩ : ∃ w5 : World, wr.drewN nq = w5 := ⟨_, rfl⟩
        rw [hw5] at RM RL DN ⊢
        clear hbq hw5 f0 f1
        obtain ⟨f0, f1⟩ := F2.out _ DN.out
        have hs5 := DN.out.size
        have K3 := hid (fun (W : World) (h : Below w5.heap.size w5 W) => show Below w5.heap.size w5 W ∧ W.cell? ⟨w.heap.size, 0, none⟩ = some (.int .u32 (iv f.1)) ∧ W.cell? ⟨w.heap.size, 1, none⟩ = some (.int .u32 (iv f.2)) from ⟨h, F2.out _ (DN.out.trans (h.mono hs5))⟩)
        have A1 := hid (fun (W : World) (h : Below w5.heap.size w5 W) => CM.out l h12 _ W (RdC.below RL.out h))
        have A2 := hid (fun (W : World) (h : Below w5.heap.size w5 W) => J3.out _ W (RdC.below RL.out h))
        have A3 := hid (fun (W : World) (h : Below w5.heap.size w5 W) => CM.out M hml _ W (RdC.below RM.out h))
        have A4 := hid (fun (W : World) (h : Below w5.heap.size w5 W) => J5.out M (f.1 &&& fu) _ W (RdC.below RM.out h))
        have A5 := hid (fun (u : Value) (W : World) (h : RdCt W u M) => J4.out M (f.1 &&& fu) u W h)
        generalize f.1 &&& fu = sk at *
        go_wp2_with fail
        go_region_held3 (fun W => Below w5.heap.size w5 W ∧ W.cell? ⟨w.heap.size, 0, none⟩ = some (.int .u32 (iv f.1)) ∧ W.cell? ⟨w.heap.size, 1, none⟩ = some (.int .u32 (iv f.2)))
          (first | exact K3.out _ (Below.refl _ _).drew | exact K3.out _ (by assumption))
          (first
            | (go_at_call 31; have hS := And.left ‹Below w5.heap.size w5 _ ∧ _ ∧ _›; with_reducible refine (A1.out _ hS).mono ?_; rintro e wa ⟨va, rfl, hra, hba⟩; have hLa := hS.trans (hba.mono hS.size); clear hba hS)
            | (go_at_call 32; have hS := And.left ‹Below w5.heap.size w5 _ ∧ _ ∧ _›; refine (J2.out _ _ (by first | exact hra | exact RdC.below hra (Below.refl _ _).drew)).mono ?_; rintro e wb ⟨rfl, hbb⟩; have hLb := hS.trans (hbb.mono hS.size); clear hbb hS)
            | (go_at_call 33; have hS := And.left ‹Below w5.heap.size w5 _ ∧ _ ∧ _›; refine (A2.out _ hS).mono ?_; rintro e wc ⟨rfl, hbc⟩; have hLc := hS.trans (hbc.mono hS.size); clear hbc hS)
            | (go_at_call 31; have hS := And.left ‹Below w5.heap.size w5 _ ∧ _ ∧ _›; with_reducible refine (A3.out _ hS).mono ?_; rintro e wd ⟨vd, rfl, hrd, hbd⟩; have hLd := hS.trans (hbd.mono hS.size); clear hbd hS)
            | (go_at_call 34; have hS := And.left ‹Below w5.heap.size w5 _ ∧ _ ∧ _›; refine (A5.out _ _ (by first | exact hrd | exact RdC.below hrd (Below.refl _ _).drew)).mono ?_; rintro e we ⟨rfl, hbe⟩; have hLe := hS.trans (hbe.mono hS.size); clear hbe hS)
            | (go_at_call 35; have hS := And.left ‹Below w5.heap.size w5 _ ∧ _ ∧ _›; refine (A4.out _ hS).mono ?_; rintro e wf ⟨rfl, hbf⟩; have hLf := hS.trans (hbf.mono hS.size); clear hbf hS))
        have BQ := hid (B0.out.trans ((DN.out.trans (hLf.mono hs5)).mono hsz0))
        clear hLa hLb hLc hLd hLe hLf hra hrd
        go_wp2_with fail
        go_ret
        exact ⟨ret_bool (by simp), BQ.out⟩
  · have hd : decide ((l.length : Int) > 12) = true := by simp; omega
    clear h12
    go_enter Try.func9, Try.ntmps9
    go_wp2_with fail
    rw [W0.out]
    refine (AW.out _).mono ?_
    rintro e w1 ⟨rfl, hb1⟩
    have D1 := hid hb1
    clear hb1
    go_wp2_with fail
    refine (AW.out _).mono ?_
    rintro e w2 ⟨rfl, hb2⟩
    have D2 := hid (B0.out.trans ((D1.out.trans (hb2.mono D1.out.size)).mono hsz0))
    clear hb2
    go_wp2_with fail
    go_ret
    exact ⟨rfl, D2.out⟩

end Go.Proofs.Ytkehelplmipenaa
