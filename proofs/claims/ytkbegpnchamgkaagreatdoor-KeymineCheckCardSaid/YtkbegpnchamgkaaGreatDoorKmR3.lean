/- The walk of the reference of chapter 29: Maximal. -/
import Derived.Test.YtkbegpnchamgkaaGreatDoorGKm2
import Derived.Test.YtkbegpnchamgkaaGreatDoorGTab30
import Derived.Deep.WholeRow
namespace Go.Proofs.YtkbegpnchamgkaaGreatDoor
open Go.RowKit
set_option linter.unusedVariables false

theorem cells_newWd (w : World) (x : W3) {t : TypeId} : ∀ j u, (cW x)[j]? = some u → (w.alloc (.cells #[.int .u32 (iv x.1), .int .i64 x.2.1, .int .i64 x.2.2] t)).drew.cell? (Addr.add ⟨w.heap.size, 0, none⟩ j) = some u := fun j u h => cells_newW w x j u h
theorem setP3 {w : World} {b : Nat} {x y z u0 u1 : Value} (h0 : w.cell? ⟨b, 0, none⟩ = some u0) (h1 : w.cell? ⟨b, 1, none⟩ = some u1) :
    (((w.setCell ⟨b, 0, none⟩ x).setCell ⟨b, 1, none⟩ y).setCell ⟨b, 2, none⟩ z).cell? ⟨b, 0, none⟩ = some x ∧ (((w.setCell ⟨b, 0, none⟩ x).setCell ⟨b, 1, none⟩ y).setCell ⟨b, 2, none⟩ z).cell? ⟨b, 1, none⟩ = some y := by
  have n20 : (⟨b, 2, none⟩ : Addr) ≠ ⟨b, 0, none⟩ := by simp
  have n21 : (⟨b, 2, none⟩ : Addr) ≠ ⟨b, 1, none⟩ := by simp
  have n10 : (⟨b, 1, none⟩ : Addr) ≠ ⟨b, 0, none⟩ := by simp
  have n01 : (⟨b, 0, none⟩ : Addr) ≠ ⟨b, 1, none⟩ := by simp
  have s0 : ∀ (W : World) (a : Addr) (u v : Value), W.cell? a = some u → (W.setCell a v).cell? a = some v := by
    intro W a u v h
    first | exact World.cell?_setCell_same h | exact World.cell?_setCell_same _ h | exact World.cell?_setCell_same _ _ h | exact World.cell?_setCell_same _ _ _ h
  have o : ∀ (W : World) (a b : Addr) (v : Value), a ≠ b → (W.setCell a v).cell? b = W.cell? b := by
    intro W a b v h
    apply World.cell?_setCell_other; exact h
  exact ⟨(o _ _ _ _ n20).trans ((o _ _ _ _ n10).trans (s0 _ _ _ _ h0)), (o _ _ _ _ n21).trans (s0 _ _ _ _ ((o _ _ _ _ n01).trans h1))⟩
theorem pair_kept {w w3 : World} (h : Below (w.drew.alloc (.cells #[.int .i64 0, .int .i64 0, .bool false] 85)).heap.size (w.drew.alloc (.cells #[.int .i64 0, .int .i64 0, .bool false] 85)) w3) :
    w3.cell? ⟨w.heap.size, 0, none⟩ = some (.int .i64 0) ∧ w3.cell? ⟨w.heap.size, 1, none⟩ = some (.int .i64 0) ∧ w3.cell? ⟨w.heap.size, 2, none⟩ = some (.bool false) ∧ w3.frozen? ⟨w.heap.size, 0, none⟩ = false ∧ w3.frozen? ⟨w.heap.size, 1, none⟩ = false ∧ w3.frozen? ⟨w.heap.size, 2, none⟩ = false := by
  have hl : w.heap.size < (w.drew.alloc (.cells #[.int .i64 0, .int .i64 0, .bool false] 85)).heap.size := by simp
  have e0 : ∀ W : World, (W.alloc (.cells #[.int .i64 0, .int .i64 0, .bool false] 85)).cell? ⟨W.heap.size, 0, none⟩ = some (.int .i64 0) := fun W => by simp
  have e1 : ∀ W : World, (W.alloc (.cells #[.int .i64 0, .int .i64 0, .bool false] 85)).cell? ⟨W.heap.size, 1, none⟩ = some (.int .i64 0) := fun W => by simp
  have e2 : ∀ W : World, (W.alloc (.cells #[.int .i64 0, .int .i64 0, .bool false] 85)).cell? ⟨W.heap.size, 2, none⟩ = some (.bool false) := fun W => by simp
  have f : ∀ (W : World) (j : Nat), (W.alloc (.cells #[.int .i64 0, .int .i64 0, .bool false] 85)).frozen? ⟨W.heap.size, j, none⟩ = false := fun W j => by simp
  exact ⟨(h.cell (p := ⟨w.heap.size, 0, none⟩) hl).trans (e0 w.drew), (h.cell (p := ⟨w.heap.size, 1, none⟩) hl).trans (e1 w.drew), (h.cell (p := ⟨w.heap.size, 2, none⟩) hl).trans (e2 w.drew), (h.frozen (p := ⟨w.heap.size, 0, none⟩) hl).trans (f w.drew 0), (h.frozen (p := ⟨w.heap.size, 1, none⟩) hl).trans (f w.drew 1), (h.frozen (p := ⟨w.heap.size, 2, none⟩) hl).trans (f w.drew 2)⟩
theorem pair_kept2 {w w3 : World} (h : Below ((w.alloc (.cells #[.int .i64 0, .int .i64 0, .bool false] 85)).drew).heap.size ((w.alloc (.cells #[.int .i64 0, .int .i64 0, .bool false] 85)).drew) w3) :
    w3.cell? ⟨w.heap.size, 0, none⟩ = some (.int .i64 0) ∧ w3.cell? ⟨w.heap.size, 1, none⟩ = some (.int .i64 0) ∧ w3.cell? ⟨w.heap.size, 2, none⟩ = some (.bool false) ∧ w3.frozen? ⟨w.heap.size, 0, none⟩ = false ∧ w3.frozen? ⟨w.heap.size, 1, none⟩ = false ∧ w3.frozen? ⟨w.heap.size, 2, none⟩ = false := by
  have hl : w.heap.size < ((w.alloc (.cells #[.int .i64 0, .int .i64 0, .bool false] 85)).drew).heap.size := by simp
  exact ⟨(h.cell (p := ⟨w.heap.size, 0, none⟩) hl).trans (by simp), (h.cell (p := ⟨w.heap.size, 1, none⟩) hl).trans (by simp), (h.cell (p := ⟨w.heap.size, 2, none⟩) hl).trans (by simp), (h.frozen (p := ⟨w.heap.size, 0, none⟩) hl).trans (by simp), (h.frozen (p := ⟨w.heap.size, 1, none⟩) hl).trans (by simp), (h.frozen (p := ⟨w.heap.size, 2, none⟩) hl).trans (by simp)⟩
set_option maxHeartbeats 3200000 in
set_option maxRecDepth 100000 in
theorem rkmax_any (t : T3) (av rv : Value) (w : World) (ht : RdT w av rv t) (hk : tabE2 t = 0) :
    Calls Tryz.prog 20 #[.agg #[.string t.1, av, rv]] w fun e w' => ∃ v', e = .returned v' ∧ w'.ownsRow w.heap.size 60 3 v' (witsL t.2.2).length ((witsL t.2.2).flatMap cW) ∧ (witsL t.2.2).length ≤ 40000 ∧ Below w.heap.size w w' := by
  have hb0 := below_alloc w (.cells #[.string t.1, av, rv] 28)
  have C3 := hid (fun W h => cells3 (w := w) (a := .string t.1) (b := av) (c := rv) (t := 28) W h)
  have T0 := hid (ht.below hb0)
  obtain ⟨w0, hw0⟩ : ∃ w0 : World, w.alloc (.cells #[.string t.1, av, rv] 28) = w0 := ⟨_, rfl⟩
  rw [hw0] at hb0 C3 T0
  have B0 := hid hb0
  have W0 := hid hw0
  have hsz0 := hb0.size
  clear hb0 hw0
  obtain ⟨h16, h200, hrows⟩ := tabE2_ok hk
  have PA := hid (fun (W : World) (h : Below w0.heap.size w0 W) => pairs_any t av rv W (T0.out.below h) hk)
  have RW := hid (fun (x : S) (W : World) (h : Below w0.heap.size w0 W) => rwit_any t av rv x W (T0.out.below h))
  have AM := hid (fun (xs : List S) (v : Value) (W : World) (hv : RdE enc W v xs) (h : xs.length < 17592186044416) => ref2Maximal_any xs v W hv h)
  have HPL := hid (show (pairsS t.2.2).length ≤ 40000 from Nat.le_trans (pairsS_length t.2.2) (Nat.mul_le_mul h200 h200))
  have WT := hid (fun (x : S) (h : x ∈ keepS upR (pairsS t.2.2)) => show witP (witE t x) = .agg #[.int .i64 (firstP (seqW t.2.2) x).1, .int .i64 (firstP (seqW t.2.2) x).2, .bool true] from by
    unfold witE
    rw [if_pos hk, firstP_fp]
    have hm : x ∈ (seqW t.2.2).map (·.1) := by
      rw [seqW_sets]
      unfold keepS at h
      exact ((ordS_ord _).2 x).1 (List.mem_filter.1 h).1
    cases hf : (seqW t.2.2).find? fun y => decide (y.1 = x) with
    | none =>
      rw [List.find?_eq_none] at hf
      obtain ⟨y, hy, rfl⟩ := List.mem_map.1 hm
      exact absurd (hf y hy) (by simp)
    | some y => unfold firstP; rw [hf]; rfl)
  have RES := hid (show (keepS upR (pairsS t.2.2)).map (fun s => (s, firstP (seqW t.2.2) s)) = witsL t.2.2 from rfl)
  obtain ⟨nm, ats, rs⟩ := t
  replace h200 : rs.length ≤ 200 := h200
  simp only at PA RW WT RES HPL
  generalize witsL rs = res at *
  generalize seqW rs = Q at *
  show Calls _ _ _ _ fun e w' => ∃ v', e = .returned v' ∧ w'.ownsRow w.heap.size 60 3 v' res.length (res.flatMap cW) ∧ res.length ≤ 40000 ∧ Below w.heap.size w w'
  obtain ⟨t00, t01, t02⟩ := C3.out _ (Below.refl _ _)
  have PA0 := hid (PA.out w0 (Below.refl _ _))
  generalize witE (nm, ats, rs) = we at *
  generalize pairsS rs = ps at *
  clear hk hrows ht
  go_enter Tryz.func20, Tryz.ntmps20
  go_wp2_with fail
  rw [W0.out]
  go_wp2_with fail
  refine PA0.out.mono ?_
  rintro e w1 ⟨v1, rfl, ho1, hb1⟩
  have R1 := RdE.of_owns ho1 (by have := HPL.out; omega)
  have CM := hid (AM.out ps v1 w1 R1 (by have := HPL.out; omega))
  obtain ⟨po, pcap, rfl, -⟩ := R1.split
  have B1 := hid hb1
  have hsz1 := hb1.size
  clear ho1 hb1 R1 PA0 t00 t01 t02
  have KL := hid (show (keepS upR ps).length ≤ 40000 from Nat.le_trans (keepS_length upR ps) HPL.out)
  have MEM := hid (fun (k : Nat) (x : S) (h : (keepS upR ps)[k]? = some x) => WT.out x (List.mem_of_getElem? h))
  generalize keepS upR ps = ms at *
  go_wp2_with fail
  refine CM.out.mono ?_
  rintro e w2 ⟨v2, rfl, ho2, hb2⟩
  have R2 := RdE.of_owns ho2 (by have := KL.out; omega)
  obtain ⟨mo, mcap, rfl, -, hmc⟩ := R2.split
  have MC := hid hmc
  have D2 := hid (B1.out.trans (hb2.mono hsz1))
  have hsz2 := hb2.size
  clear ho2 hb2 R2 hmc
  unfold enc at MC
  go_wp2_with fail
  go_loopw [4, 5] (fun u i wr => ∃ k : Nat, k ≤ ms.length ∧ i = .int .i64 k ∧ wr.ownsRow w2.heap.size 60 3 u ((ms.take k).map fun s => (s, firstP Q s)).length (((ms.take k).map fun s => (s, firstP Q s)).flatMap cW) ∧ Below w2.heap.size w2 wr) (fun _ i _ => ms.length - (intOf i).toNat)
  case atStart => exact ⟨0, Nat.zero_le _, rfl, World.ownsRow_nil _ _ _ _, Below.refl _ _⟩
  case round =>
    obtain ⟨wo, rfl⟩ : ∃ wo : World, wo = wr := ⟨_, rfl⟩
    obtain ⟨k, hk3, rfl, hown, hnx⟩ := hrel
    have hsz7 := hnx.size
    have k0 : (0 : Int) ≤ (k : Int) := by omega
    by_cases hlt3 : k < ms.length
    · have HLT3 := hid hlt3
      have hkb : k ≤ 40000 := by have := KL.out; omega
      obtain ⟨x, hx⟩ := get_some hlt3
      obtain ⟨b, off, rfl, hd⟩ := MC.out k x hx
      have TN := hid (show ((ms.take (k + 1)).map fun s => (s, firstP Q s)) = ((ms.take k).map fun s => (s, firstP Q s)) ++ [(x, firstP Q x)] by rw [take_next hx, List.map_append]; rfl)
      have hol : ((ms.take k).map fun s => (s, firstP Q s)).length ≤ 40000 := by rw [List.length_map]; exact Nat.le_trans (List.length_take_le' _ _) KL.out
      have HOL := hid hol
      generalize (ms.take k).map (fun s => (s, firstP Q s)) = out at *
      have HE := MEM.out k x hx
      obtain ⟨fa, hfa⟩ : ∃ fa, (firstP Q x).1 = fa := ⟨_, rfl⟩
      obtain ⟨fb, hfb⟩ : ∃ fb, (firstP Q x).2 = fb := ⟨_, rfl⟩
      rw [hfa, hfb] at HE
      have HFX := hid (show firstP Q x = (fa, fb) by rw [← hfa, ← hfb])
      have NX0 := hid (D2.out.trans (hnx.mono D2.out.size))
      have HS := hid (fun (W : World) (h : Below wo.heap.size wo W) => show Below wo.heap.size wo W ∧ (W.cell? ⟨w.heap.size, 0, none⟩ = some (.string nm) ∧ W.cell? ⟨w.heap.size, 1, none⟩ = some av ∧ W.cell? ⟨w.heap.size, 2, none⟩ = some rv) ∧ W.cell? ⟨b, off + k, none⟩ = some (.int .u32 (iv x)) from
        ⟨h, C3.out _ (NX0.out.trans (h.mono NX0.out.size)), hd W (hnx.trans (h.mono hsz7))⟩)
      have CW := hid (fun (W : World) (h : Below wo.heap.size wo W) => show Calls _ _ _ W _ from RW.out x W (NX0.out.trans (h.mono NX0.out.size)))
      rw [HE] at CW
      unfold enc at CW
      have NX := hid hnx
      have OW := hid hown
      clear hd hx hol hfa hfb hown hnx HE
      have SW : ∀ W : World, (storeCells ⟨W.heap.size, 0, none⟩ [.int .i64 fa, .int .i64 fb, .bool true] 0).run Tryz.prog (W.alloc (.cells #[.int .i64 0, .int .i64 0, .bool false] 85)) = .ok () (W.alloc (.cells #[.int .i64 fa, .int .i64 fb, .bool true] 85)) := fun W => run_storeCells_new (P := Tryz.prog) W 85 #[.int .i64 0, .int .i64 0, .bool false] #[.int .i64 fa, .int .i64 fb, .bool true] (by kernel_rfl) (by first | rfl | simp) (by first | kernel_rfl | simp | simp [Value.oneCell'])
      go_wp2_with fail
      go_region_held3 (fun W => Below wo.heap.size wo W ∧ (W.cell? ⟨w.heap.size, 0, none⟩ = some (.string nm) ∧ W.cell? ⟨w.heap.size, 1, none⟩ = some av ∧ W.cell? ⟨w.heap.size, 2, none⟩ = some rv) ∧ W.cell? ⟨b, off + k, none⟩ = some (.int .u32 (iv x)))
        (first | exact HS.out _ (Below.refl _ _).drew | exact HS.out _ ((Below.refl _ _).alloc (Nat.le_refl _) _).drew | exact HS.out _ ((Below.refl _ _).drew.alloc (by simp) _) | exact HS.out _ (hL.alloc hL.size _).drew | exact HS.out _ (hL.alloc hL.size _) | exact HS.out _ hL.drew | exact HS.out _ (((hL.setCell (Nat.le_refl _) _).setCell (Nat.le_refl _) _).setCell (Nat.le_refl _) _) | exact HS.out _ ((((hL.alloc hL.size _).setCell hL.size _).setCell hL.size _).setCell hL.size _) | exact HS.out _ (by assumption) | assumption)
        (first
          | (go_at_call 44; have hS := And.left ‹Below wo.heap.size wo _ ∧ _ ∧ _›; refine (CW.out _ hS).mono ?_; rintro e w3 ⟨rfl, hb3⟩; have hL := hS.trans (hb3.mono hS.size); first | (have zz := pair_kept hb3; obtain ⟨z0, z1, z2, y0, y1, y2⟩ := zz) | (have zz := pair_kept2 hb3; obtain ⟨z0, z1, z2, y0, y1, y2⟩ := zz) | skip; clear hb3 hS))
      · have XB := hid (hL.alloc hL.size (.cells #[.int .i64 fa, .int .i64 fb, .bool true] 85))
        have q0 : (w3.alloc (.cells #[.int .i64 fa, .int .i64 fb, .bool true] 85)).cell? ⟨w3.heap.size, 0, none⟩ = some (.int .i64 fa) := by simp
        have q1 : (w3.alloc (.cells #[.int .i64 fa, .int .i64 fb, .bool true] 85)).cell? ⟨w3.heap.size, 1, none⟩ = some (.int .i64 fb) := by simp
        obtain ⟨w4, hw4⟩ : ∃ w4 : World, w3.alloc (.cells #[.int .i64 fa, .int .i64 fb, .bool true] 85) = w4 := ⟨_, rfl⟩
        obtain ⟨pb, hpb⟩ : ∃ pb : Nat, w3.heap.size = pb := ⟨_, rfl⟩
        rw [hw4] at XB q0 q1
        rw [hpb] at q0 q1
        rw [hw4, hpb]
        clear hw4 hpb hL
        have e9 := (HS.out w4 XB.out).2.2
        have OW4 := hid (own_below OW.out XB.out)
        have NX4 := hid (NX.out.trans (XB.out.mono hsz7))
        have hsz8 := NX4.out.size
        go_wp2_with fail
        go_region_law ((refine step_pushB (by rfl) _ _ 48 (by rfl) w2.heap.size 60 (.agg #[.int .u32 0, .int .i64 0, .int .i64 0]) 3 24 undWs infoW rfl (by decide) (by decide) cW cW_length _ out (by rfl) ((OW4.out.alloc (.cells #[.int .u32 (iv x), .int .i64 fa, .int .i64 fb] 60)).drew) ⟨w4.heap.size, 0, none⟩ (x, fa, fb) (cW_one _) (by rfl) (cells_newWd w4 (x, fa, fb)) (by have := HOL.out; omega) (by simp; omega) ?_; intro v8 w8 hown8 hg8 hv8))
        all_goals
          have hb8 := (((NX4.out.alloc hsz8 (.cells #[.int .u32 (iv x), .int .i64 fa, .int .i64 fb] 60)).drew).grown hg8 (by simp; omega) (fun j hj => (OW4.out.lt j hj).1))
          have hown9 : w8.ownsRow w2.heap.size 60 3 v8 (out ++ [(x, firstP Q x)]).length ((out ++ [(x, firstP Q x)]).flatMap cW) := by rw [HFX.out]; exact hown8
          rw [← TN.out] at hown9
          have HO9 := hid hown9
          have HB8 := hid hb8
          clear hown8 hg8 hv8 hb8 hown9 q0 q1 e9
          go_wp2_with fail
          go_roundw
          case rel => exact ⟨k + 1, by have := HLT3.out; omega, by go_num, HO9.out, HB8.out⟩
          case measure => have := HLT3.out; simp [intOf]; omega
      · have XB := hid (((hL.setCell (p := ⟨wo.heap.size, 0, none⟩) (Nat.le_refl _) (.int .i64 fa)).setCell (p := ⟨wo.heap.size, 1, none⟩) (Nat.le_refl _) (.int .i64 fb)).setCell (p := ⟨wo.heap.size, 2, none⟩) (Nat.le_refl _) (.bool true))
        have q0 : (((w3.setCell ⟨wo.heap.size, 0, none⟩ (.int .i64 fa)).setCell ⟨wo.heap.size, 1, none⟩ (.int .i64 fb)).setCell ⟨wo.heap.size, 2, none⟩ (.bool true)).cell? ⟨wo.heap.size, 0, none⟩ = some (.int .i64 fa) := (setP3 z0 z1).1
        have q1 : (((w3.setCell ⟨wo.heap.size, 0, none⟩ (.int .i64 fa)).setCell ⟨wo.heap.size, 1, none⟩ (.int .i64 fb)).setCell ⟨wo.heap.size, 2, none⟩ (.bool true)).cell? ⟨wo.heap.size, 1, none⟩ = some (.int .i64 fb) := (setP3 z0 z1).2
        obtain ⟨w4, hw4⟩ : ∃ w4 : World, ((w3.setCell ⟨wo.heap.size, 0, none⟩ (.int .i64 fa)).setCell ⟨wo.heap.size, 1, none⟩ (.int .i64 fb)).setCell ⟨wo.heap.size, 2, none⟩ (.bool true) = w4 := ⟨_, rfl⟩
        obtain ⟨pb, hpb⟩ : ∃ pb : Nat, wo.heap.size = pb := ⟨_, rfl⟩
        rw [hw4] at XB q0 q1
        rw [hpb] at q0 q1
        rw [hw4, hpb]
        clear hw4 hpb hL z0 z1 z2 y0 y1 y2
        have e9 := (HS.out w4 XB.out).2.2
        have OW4 := hid (own_below OW.out XB.out)
        have NX4 := hid (NX.out.trans (XB.out.mono hsz7))
        have hsz8 := NX4.out.size
        go_wp2_with fail
        go_region_law ((refine step_pushB (by rfl) _ _ 48 (by rfl) w2.heap.size 60 (.agg #[.int .u32 0, .int .i64 0, .int .i64 0]) 3 24 undWs infoW rfl (by decide) (by decide) cW cW_length _ out (by rfl) ((OW4.out.alloc (.cells #[.int .u32 (iv x), .int .i64 fa, .int .i64 fb] 60)).drew) ⟨w4.heap.size, 0, none⟩ (x, fa, fb) (cW_one _) (by rfl) (cells_newWd w4 (x, fa, fb)) (by have := HOL.out; omega) (by simp; omega) ?_; intro v8 w8 hown8 hg8 hv8))
        all_goals
          have hb8 := (((NX4.out.alloc hsz8 (.cells #[.int .u32 (iv x), .int .i64 fa, .int .i64 fb] 60)).drew).grown hg8 (by simp; omega) (fun j hj => (OW4.out.lt j hj).1))
          have hown9 : w8.ownsRow w2.heap.size 60 3 v8 (out ++ [(x, firstP Q x)]).length ((out ++ [(x, firstP Q x)]).flatMap cW) := by rw [HFX.out]; exact hown8
          rw [← TN.out] at hown9
          have HO9 := hid hown9
          have HB8 := hid hb8
          clear hown8 hg8 hv8 hb8 hown9 q0 q1 e9
          go_wp2_with fail
          go_roundw
          case rel => exact ⟨k + 1, by have := HLT3.out; omega, by go_num, HO9.out, HB8.out⟩
          case measure => have := HLT3.out; simp [intOf]; omega
    · rw [take_all hlt3, RES.out] at hown
      have OF := hid (own_mono hown (show w.heap.size ≤ w2.heap.size by omega))
      have BF := hid (B0.out.trans ((D2.out.trans (hnx.mono D2.out.size)).mono hsz0))
      have HLL := hid (show res.length ≤ 40000 by rw [← RES.out, List.length_map]; exact KL.out)
      clear hown hnx
      go_wp2_with fail
      go_ret
      exact ⟨_, rfl, OF.out, HLL.out, BF.out⟩

end Go.Proofs.YtkbegpnchamgkaaGreatDoor
