/- Texts that belong together, in one file. -/
import Derived.Test.YtgahpgmagfngfaaGreatDoorGNdB
import Derived.Deep.RegionHeld3
import Derived.Test.YtgahpgmagfngfaaGreatDoorGNdC
import Derived.Test.YtgahpgmagfngfaaGreatDoorGKm2
/- The walks of inclusion.within, repeated, fits, Valid. -/
namespace Go.Proofs.YtgahpgmagfngfaaGreatDoor
open Go.RowKit
set_option linter.unusedVariables false

theorem within1_any (n b a : Nat) (w : World) (hc : w.cell? ⟨b, 0, none⟩ = some (.int .i64 (n : Int))) :
    Calls Tryz.prog 127 (#[encI a] ++ #[.pointer (some ⟨b, 0, none⟩)]) w fun e w' => e = .returned (.bool (decide (n ≤ a))) ∧ Below w.heap.size w w' := by
  show Calls Tryz.prog 127 #[.int .i64 (a : Int), .pointer (some ⟨b, 0, none⟩)] w _
  have a0 : ¬ (a : Int) < 0 := by omega
  have a1 : decide ((a : Int) < 0) = false := by simp
  have HQ := hid (show decide (n ≤ a) = decide ((a : Int) ≥ (n : Int)) by rw [decide_eq_decide]; omega)
  go_enter Tryz.func127, Tryz.ntmps127
  go_wp2_with fail
  go_ret
  exact ⟨ret_bool (by rw [HQ.out]), Below.refl _ _⟩
theorem within_any (l : List Nat) (v : Value) (n : Nat) (w : World) (hv : RdE encI w v l) (hl : ∀ a ∈ l, a < n) :
    Calls Tryz.prog 84 #[v, .int .i64 (n : Int)] w fun e w' => e = .returned (.bool true) ∧ Below w.heap.size w w' := by
  have hb := below_alloc w (.cells #[.int .i64 (n : Int)] 3)
  have c0 : (w.alloc (.cells #[.int .i64 (n : Int)] 3)).cell? ⟨w.heap.size, 0, none⟩ = some (.int .i64 (n : Int)) := cell_new
  have hlt := World.block_lt_of_cell? _ _ c0
  have IX := hid (iNcontains_any 127 #[.pointer (some ⟨w.heap.size, 0, none⟩)] (fun a => decide (n ≤ a)) l v _ (hv.below hb) (enters _ _ _ Tryz.func127 (by kernel_rfl) rfl) (fun x _ W hW => within1_any n w.heap.size x W ((hW.cell (p := ⟨w.heap.size, 0, none⟩) hlt).trans c0)))
  have AF : l.any (fun a => decide (n ≤ a)) = false := by
    rw [List.any_eq_false]; intro a ha; have := hl a ha; simp; omega
  rw [AF] at IX
  have B := hid hb
  obtain ⟨ao, cap, rfl, -⟩ := hv.split
  clear hv hb c0 hlt AF
  go_enter Tryz.func84, Tryz.ntmps84
  go_wp2_with fail
  refine IX.out.mono ?_
  rintro e w2 ⟨rfl, hb2⟩
  have B2 := hid (B.out.trans (hb2.mono B.out.size))
  clear hb2
  go_wp2_with fail
  go_ret
  exact ⟨rfl, B2.out⟩
theorem RdE.takeI {α : Type} {f : α → Value} {w : World} {ao : Option Addr} {cap n : Nat} {xs : List α} (h : RdE f w (.slice ao n cap) xs) {k : Nat} (hk : k ≤ xs.length) : RdE f w (.slice ao k cap) (xs.take k) := by
  obtain ⟨ao', cap', he, h1, h2, h3⟩ := h
  simp only [Value.slice.injEq] at he
  obtain ⟨rfl, rfl, rfl⟩ := he
  have hl : (xs.take k).length = k := by rw [List.length_take]; omega
  refine ⟨_, _, by rw [hl], by omega, by omega, fun hp => ?_⟩
  obtain ⟨b, off, e, hlt, hc⟩ := h3 (by omega)
  exact ⟨b, off, e, hlt, fun j x hx => hc j x (by
    have hj : j < (xs.take k).length := (List.getElem?_eq_some_iff.1 hx).1
    rwa [List.getElem?_take_of_lt (by omega)] at hx)⟩
set_option maxHeartbeats 1600000 in
theorem repeated_any (l : List Nat) (v : Value) (w : World) (hv : RdE encI w v l) (hl : l.Nodup) :
    Calls Tryz.prog 85 #[v] w fun e w' => e = .returned (.bool false) ∧ Below w.heap.size w w' := by
  obtain ⟨ao, cap, rfl, hlb, hc⟩ := hv.split
  have HC := hid hc
  have HV := hid hv
  have hcap : l.length ≤ cap := by
    obtain ⟨_, _, he, h1, -⟩ := hv
    simp only [Value.slice.injEq] at he
    omega
  have HCAP := hid hcap
  have HND := hid hl
  unfold encI at HC
  clear hc hv hcap hl
  go_enter Tryz.func85, Tryz.ntmps85
  go_wp2_with fail
  go_loopw [7] (fun i wr => ∃ k : Nat, k ≤ l.length ∧ i = .int .i64 k ∧ Below w.heap.size w wr) (fun i _ => l.length - (intOf i).toNat)
  case atStart => exact ⟨0, Nat.zero_le _, rfl, Below.refl _ _⟩
  case round =>
    obtain ⟨k, hk, rfl, hnx⟩ := hrel
    have NX := hid hnx
    have hsz := hnx.size
    have k0 : (0 : Int) ≤ (k : Int) := by omega
    have k9 : (k : Int) ≤ 35184372088832 := by omega
    by_cases hlt : k < l.length
    · have hltI : (k : Int) < (l.length : Int) := by omega
      have kc : (k : Int) ≤ (cap : Int) := by have := HCAP.out; omega
      obtain ⟨x, hx⟩ := get_some hlt
      obtain ⟨b, off, rfl, hd⟩ := HC.out k x hx
      have e0 := hd wr hnx
      have NI := hid (show (l.take k).contains x = false from by
        rw [← Bool.not_eq_true]
        intro h
        have hm : x ∈ l.take k := by simpa using h
        obtain ⟨j, hj⟩ := List.mem_iff_getElem?.1 hm
        have hjk : j < k := by have := (List.getElem?_eq_some_iff.1 hj).1; rw [List.length_take] at this; omega
        rw [List.getElem?_take_of_lt hjk] at hj
        have h1 := List.getElem?_eq_some_iff.1 hj
        have h2 := List.getElem?_eq_some_iff.1 hx
        have := (List.getElem_inj (h₀ := h1.1) (h₁ := h2.1) HND.out).1 (h1.2.trans h2.2.symm)
        omega)
      have CT := hid (icontains_any x (l.take k) (.slice (some ⟨b, off, none⟩) k cap) wr ((HV.out.below hnx).takeI (Nat.le_of_lt hlt)))
      rw [NI.out] at CT
      clear hd hx hnx
      go_wp2_with fail
      refine CT.out.mono ?_
      rintro e w2 ⟨rfl, hb2⟩
      have N2 := hid (NX.out.trans (hb2.mono hsz))
      clear hb2
      go_wp2_with fail
      go_roundw
      case rel => exact ⟨k + 1, by omega, by go_num, N2.out⟩
      case measure => simp [intOf]; omega
    · have hltI : ¬ (k : Int) < (l.length : Int) := by omega
      clear hnx
      go_wp2_with fail
      go_ret
      exact ⟨rfl, NX.out⟩

/-- The boxes of a database and of a dependency. -/
theorem boxDI (w : World) (v a b c d : Value) (W : World) (h : Below ((w.alloc (.cells #[v] 29)).alloc (.cells #[a, b, c, d] 39)).heap.size ((w.alloc (.cells #[v] 29)).alloc (.cells #[a, b, c, d] 39)) W) :
    W.cell? ⟨w.heap.size, 0, none⟩ = some v ∧ W.cell? ⟨w.heap.size + 1, 0, none⟩ = some a ∧ W.cell? ⟨w.heap.size + 1, 1, none⟩ = some b ∧ W.cell? ⟨w.heap.size + 1, 2, none⟩ = some c ∧ W.cell? ⟨w.heap.size + 1, 3, none⟩ = some d := by
  have hs : (w.alloc (.cells #[v] 29)).heap.size = w.heap.size + 1 := by simp
  have h2 : ∀ j, j < 4 → W.cell? ⟨w.heap.size + 1, j, none⟩ = ((w.alloc (.cells #[v] 29)).alloc (.cells #[a, b, c, d] 39)).cell? ⟨w.heap.size + 1, j, none⟩ := fun j _ => h.cell (p := ⟨w.heap.size + 1, j, none⟩) (by simp)
  refine ⟨(h.cell (p := ⟨w.heap.size, 0, none⟩) (by simp; omega)).trans ?_, (h2 0 (by omega)).trans ?_, (h2 1 (by omega)).trans ?_, (h2 2 (by omega)).trans ?_, (h2 3 (by omega)).trans ?_⟩
  · exact (World.cell?_alloc_lt _ _ _ (by simp)).trans cell_new
  all_goals (rw [← hs]; simp)

set_option maxHeartbeats 3200000 in
set_option maxRecDepth 100000 in
theorem ifits_any (ds : List D3) (v : Value) (d : DN) (lv rv : Value) (w : World) (hv : RdDb w v ds) (hg : GoodD ds) (hd : VI ds.length (nD ds) d) (hl : RdE encI w lv d.2.2.1) (hr : RdE encI w rv d.2.2.2) :
    Calls Tryz.prog 49 #[.agg #[v], .agg #[.string (nmT d.1), lv, .string (nmT d.2.1), rv]] w fun e w' => e = .returned (.int .i64 0) ∧ Below w.heap.size w w' := by
  obtain ⟨f, t, l, r⟩ := d
  obtain ⟨lo, lcap, hlv, -⟩ := hl.split
  obtain ⟨ro, rcap, hrv, -⟩ := hr.split
  simp only at hlv hrv
  subst hlv hrv
  obtain ⟨df, hdf⟩ := get_some (show f < ds.length from hd.f)
  obtain ⟨dt, hdt⟩ := get_some (show t < ds.length from hd.t)
  have hb0 := (below_alloc w (.cells #[v] 29)).trans ((below_alloc (w.alloc (.cells #[v] 29)) (.cells #[.string (nmT f), .slice lo l.length lcap, .string (nmT t), .slice ro r.length rcap] 39)).mono (by simp))
  have BX := hid (boxDI w v (.string (nmT f)) (.slice lo l.length lcap) (.string (nmT t)) (.slice ro r.length rcap))
  obtain ⟨w0, hw0⟩ : ∃ w0 : World, (w.alloc (.cells #[v] 29)).alloc (.cells #[.string (nmT f), .slice lo l.length lcap, .string (nmT t), .slice ro r.length rcap] 39) = w0 := ⟨_, rfl⟩
  rw [hw0] at hb0 BX
  have B0 := hid hb0
  have W0 := hid hw0
  have hs0 := hb0.size
  have V0 := hid (hv.below hb0)
  obtain ⟨ao, cap, rfl, -, hc⟩ := V0.out.split
  obtain ⟨⟨b, off, rfl, hcf⟩, hTf⟩ := hc f _ hdf
  obtain ⟨⟨b', off', hbe, hct⟩, hTt⟩ := hc t _ hdt
  simp only [Option.some.injEq, Addr.mk.injEq] at hbe
  obtain ⟨rfl, rfl, -⟩ := hbe
  obtain ⟨avf, rvf, nmf, atf, rsf⟩ := df
  obtain ⟨avt, rvt, nmt, att, rst⟩ := dt
  obtain ⟨aof, acf, haf, -⟩ := (hTf w0 (Below.refl _ _)).1.split
  obtain ⟨aot, act, hat, -⟩ := (hTt w0 (Below.refl _ _)).1.split
  simp only at haf hat hcf hct
  subst haf hat
  have HF := hid (fun (W : World) (h : Below w0.heap.size w0 W) => (hcf W h).2.1)
  have HT := hid (fun (W : World) (h : Below w0.heap.size w0 W) => (hct W h).2.1)
  have FF := hid (fun (W : World) (h : Below w0.heap.size w0 W) => (ifind_any (nmT f) ds _ W (V0.out.below h)).mono fun _ _ hq => hg.idx hd.f hq)
  have FT := hid (fun (W : World) (h : Below w0.heap.size w0 W) => (ifind_any (nmT t) ds _ W (V0.out.below h)).mono fun _ _ hq => hg.idx hd.t hq)
  have nf : nD ds f = atf.length := nD_at hdf
  have nt : nD ds t = att.length := nD_at hdt
  have WL := hid (fun (W : World) (h : Below w0.heap.size w0 W) => within_any l _ atf.length W ((hl.below hb0).below h) (fun a ha => by rw [← nf]; exact hd.l a ha))
  have WR := hid (fun (W : World) (h : Below w0.heap.size w0 W) => within_any r _ att.length W ((hr.below hb0).below h) (fun a ha => by rw [← nt]; exact hd.r a ha))
  have RL := hid (fun (W : World) (h : Below w0.heap.size w0 W) => repeated_any l _ W ((hl.below hb0).below h) hd.nl)
  have RR := hid (fun (W : World) (h : Below w0.heap.size w0 W) => repeated_any r _ W ((hr.below hb0).below h) hd.nr)
  have f0 : (0 : Int) ≤ (f : Int) := by omega
  have t0 : (0 : Int) ≤ (t : Int) := by omega
  have f1 : (f : Int) < (ds.length : Int) := by have : f < ds.length := hd.f; omega
  have t1 : (t : Int) < (ds.length : Int) := by have : t < ds.length := hd.t; omega
  have f2 : decide ((f : Int) < 0) = false := by simp
  have t2 : decide ((t : Int) < 0) = false := by simp
  have ln : ((l.length : Int) != (r.length : Int)) = false := by have : l.length = r.length := hd.len; rw [this]; simp
  have HB0 := hid (Below.refl w0.heap.size w0)
  have HS := hid (fun (W : World) (h : Below w0.heap.size w0 W) => And.intro h (BX.out W h))
  have HS4 := hid (fun (W : World) (h : Below w0.heap.size w0 W) => show Below w0.heap.size w0 W ∧ (W.cell? ⟨w.heap.size, 0, none⟩ = some (.slice (some ⟨b, off, none⟩) ds.length cap) ∧ W.cell? ⟨w.heap.size + 1, 1, none⟩ = some (.slice lo l.length lcap) ∧ W.cell? ⟨w.heap.size + 1, 3, none⟩ = some (.slice ro r.length rcap)) ∧ W.cell? ⟨b, off + f * 3 + 1, none⟩ = some (.slice aof atf.length acf) ∧ W.cell? ⟨b, off + t * 3 + 1, none⟩ = some (.slice aot att.length act) from
    ⟨h, ⟨(BX.out W h).1, (BX.out W h).2.2.1, (BX.out W h).2.2.2.2⟩, HF.out W h, HT.out W h⟩)
  clear hv hl hr hb0 hw0 hc hcf hct hTf hTt hdf hdt hd hg nf nt
  go_enter Tryz.func49, Tryz.ntmps49
  go_wp2_with fail
  rw [W0.out]
  go_region_held3 (fun W => Below w0.heap.size w0 W ∧ W.cell? ⟨w.heap.size, 0, none⟩ = some (.slice (some ⟨b, off, none⟩) ds.length cap) ∧ W.cell? ⟨w.heap.size + 1, 0, none⟩ = some (.string (nmT f)) ∧ W.cell? ⟨w.heap.size + 1, 1, none⟩ = some (.slice lo l.length lcap) ∧ W.cell? ⟨w.heap.size + 1, 2, none⟩ = some (.string (nmT t)) ∧ W.cell? ⟨w.heap.size + 1, 3, none⟩ = some (.slice ro r.length rcap))
    (first | exact HS.out _ (below_drewN' HB0.out _) | exact HS.out _ HB0.out.drew | exact HS.out _ HB0.out | exact HS.out _ (by assumption))
    (first
      | (go_at_call 45; have hS := And.left ‹Below w0.heap.size w0 _ ∧ _ ∧ _›; (with_reducible refine (FF.out _ hS).mono ?_); rintro e wa ⟨rfl, hba⟩; have hLa := hS.trans (hba.mono hS.size); clear hba hS)
      | (go_at_call 45; have hS := And.left ‹Below w0.heap.size w0 _ ∧ _ ∧ _›; (with_reducible refine (FT.out _ hS).mono ?_); rintro e wb ⟨rfl, hbb⟩; have hLb := hS.trans (hbb.mono hS.size); clear hbb hS))
  all_goals
    have D1 := hid hLb
    clear hLa hLb
    obtain ⟨x0, x1, x2, x3, x4⟩ := BX.out _ D1.out
    go_wp2_with fail
    go_region_held3 (fun W => Below w0.heap.size w0 W ∧ (W.cell? ⟨w.heap.size, 0, none⟩ = some (.slice (some ⟨b, off, none⟩) ds.length cap) ∧ W.cell? ⟨w.heap.size + 1, 1, none⟩ = some (.slice lo l.length lcap) ∧ W.cell? ⟨w.heap.size + 1, 3, none⟩ = some (.slice ro r.length rcap)) ∧ W.cell? ⟨b, off + f * 3 + 1, none⟩ = some (.slice aof atf.length acf) ∧ W.cell? ⟨b, off + t * 3 + 1, none⟩ = some (.slice aot att.length act))
      (first | exact HS4.out _ (below_drewN' D1.out _) | exact HS4.out _ D1.out.drew | exact HS4.out _ D1.out | exact HS4.out _ (by assumption))
      (first
        | (go_at_call 84; have hS := And.left ‹Below w0.heap.size w0 _ ∧ _ ∧ _›; (with_reducible refine (WL.out _ hS).mono ?_); rintro e wc ⟨rfl, hbc⟩; have hLc := hS.trans (hbc.mono hS.size); clear hbc hS)
        | (go_at_call 84; have hS := And.left ‹Below w0.heap.size w0 _ ∧ _ ∧ _›; (with_reducible refine (WR.out _ hS).mono ?_); rintro e wd ⟨rfl, hbd⟩; have hLd := hS.trans (hbd.mono hS.size); clear hbd hS))
    all_goals
      have D2 := hid hLd
      clear hLc hLd x0 x1 x2 x3 x4
      obtain ⟨x0, x1, x2, x3, x4⟩ := BX.out _ D2.out
      go_wp2_with fail
      refine (RL.out _ D2.out).mono ?_
      rintro e we ⟨rfl, hbe⟩
      have D3 := hid (D2.out.trans (hbe.mono D2.out.size))
      clear hbe x0 x1 x2 x3 x4
      obtain ⟨x0, x1, x2, x3, x4⟩ := BX.out _ D3.out
      go_wp2_with fail
      refine (RR.out _ D3.out).mono ?_
      rintro e wf ⟨rfl, hbf⟩
      have D4 := hid (B0.out.trans ((D3.out.trans (hbf.mono D3.out.size)).mono hs0))
      clear hbf x0 x1 x2 x3 x4
      go_wp2_with fail
      go_ret
      exact ⟨rfl, D4.out⟩

set_option maxHeartbeats 1600000 in
theorem ivalid_any (ds : List D3) (v : Value) (d : DN) (lv rv : Value) (w : World) (hv : RdDb w v ds) (hg : GoodD ds) (hd : VI ds.length (nD ds) d) (hl : RdE encI w lv d.2.2.1) (hr : RdE encI w rv d.2.2.2) :
    Calls Tryz.prog 44 #[.agg #[v], .agg #[.string (nmT d.1), lv, .string (nmT d.2.1), rv]] w fun e w' => e = .returned (.int .i64 0) ∧ Below w.heap.size w w' := by
  have hb0 := (below_alloc w (.cells #[v] 29)).trans ((below_alloc (w.alloc (.cells #[v] 29)) (.cells #[.string (nmT d.1), lv, .string (nmT d.2.1), rv] 39)).mono (by simp))
  have BX := hid (boxDI w v (.string (nmT d.1)) lv (.string (nmT d.2.1)) rv)
  obtain ⟨w0, hw0⟩ : ∃ w0 : World, (w.alloc (.cells #[v] 29)).alloc (.cells #[.string (nmT d.1), lv, .string (nmT d.2.1), rv] 39) = w0 := ⟨_, rfl⟩
  rw [hw0] at hb0 BX
  have B0 := hid hb0
  have W0 := hid hw0
  have hs0 := hb0.size
  have V0 := hid (hv.below hb0)
  have CK := hid (icheck_any ds v w0 V0.out hg)
  have FI := hid (fun (W : World) (h : Below w0.heap.size w0 W) => ifits_any ds v d lv rv W (V0.out.below h) hg hd ((hl.below hb0).below h) ((hr.below hb0).below h))
  obtain ⟨ao, cap, rfl, -⟩ := V0.out.split
  obtain ⟨lo, lcap, rfl, -⟩ := hl.split
  obtain ⟨ro, rcap, rfl, -⟩ := hr.split
  obtain ⟨x0, x1, x2, x3, x4⟩ := BX.out _ (Below.refl _ _)
  clear hv hb0 hw0 hg hd hl hr
  go_enter Tryz.func44, Tryz.ntmps44
  go_wp2_with fail
  rw [W0.out]
  go_wp2_with fail
  refine CK.out.mono ?_
  rintro e w1 ⟨rfl, hb1⟩
  have D1 := hid hb1
  clear x0 x1 x2 x3 x4 hb1
  obtain ⟨x0, x1, x2, x3, x4⟩ := BX.out _ D1.out
  go_wp2_with fail
  refine (FI.out _ D1.out).mono ?_
  rintro e w2 ⟨rfl, hb2⟩
  have D2 := hid (B0.out.trans ((D1.out.trans (hb2.mono D1.out.size)).mono hs0))
  clear x0 x1 x2 x3 x4 hb2
  go_wp2_with fail
  go_ret
  exact ⟨rfl, D2.out⟩

end Go.Proofs.YtgahpgmagfngfaaGreatDoor


/- The walks of inclusion.Violations and Holds. -/
namespace Go.Proofs.YtgahpgmagfngfaaGreatDoor
open Go.RowKit
set_option linter.unusedVariables false

theorem lack_hld (rs1 rs2 : List Row3) (l r : List Nat) : decide ((rs1.filter (lackP (keyLs rs2 r) l)).length = 0) = hldB rs1 rs2 l r := by
  rw [Bool.eq_iff_iff, decide_eq_true_iff, List.length_eq_zero_iff, List.filter_eq_nil_iff]
  unfold hldB
  rw [List.all_eq_true]
  constructor
  · intro h k hk
    unfold keyLs at hk
    obtain ⟨x, hx, rfl⟩ := List.mem_map.1 hk
    have := h x hx
    unfold lackP keyS at this
    simpa using this
  · intro h x hx
    have := h (mkKS (kyB x.2.2 l)) (by unfold keyLs; exact List.mem_map.2 ⟨x, hx, rfl⟩)
    unfold lackP keyS
    rw [this]; simp
def VioQ (w : World) (R : Bool) (e : Ending) (w' : World) : Prop := ∃ (o : Option Addr) (n c : Nat), e = .returned (.tuple #[.slice o n c, .int .i64 0]) ∧ decide (n = 0) = R ∧ Below w.heap.size w w'

set_option maxHeartbeats 6400000 in
set_option maxRecDepth 100000 in
theorem ivio_any (ds : List D3) (v : Value) (d : DN) (lv rv : Value) (w : World) (hv : RdDb w v ds) (hg : GoodD ds) (hd : VI ds.length (nD ds) d) (hl : RdE encI w lv d.2.2.1) (hr : RdE encI w rv d.2.2.2) :
    Calls Tryz.prog 19 #[.agg #[v], .agg #[.string (nmT d.1), lv, .string (nmT d.2.1), rv]] w (VioQ w (hldD (rD ds) d)) := by
  obtain ⟨f, t, l, r⟩ := d
  obtain ⟨lo, lcap, hlv, -⟩ := hl.split
  obtain ⟨ro, rcap, hrv, -⟩ := hr.split
  simp only at hlv hrv
  subst hlv hrv
  obtain ⟨df, hdf⟩ := get_some (show f < ds.length from hd.f)
  obtain ⟨dt, hdt⟩ := get_some (show t < ds.length from hd.t)
  have HLD := hid (show hldD (rD ds) (f, t, l, r) = hldB df.2.2.2.2 dt.2.2.2.2 l r by unfold hldD; simp only; rw [rD_at hdf, rD_at hdt])
  rw [HLD.out]
  have hb0 := (below_alloc w (.cells #[v] 29)).trans ((below_alloc (w.alloc (.cells #[v] 29)) (.cells #[.string (nmT f), .slice lo l.length lcap, .string (nmT t), .slice ro r.length rcap] 39)).mono (by simp))
  have BX := hid (boxDI w v (.string (nmT f)) (.slice lo l.length lcap) (.string (nmT t)) (.slice ro r.length rcap))
  obtain ⟨w0, hw0⟩ : ∃ w0 : World, (w.alloc (.cells #[v] 29)).alloc (.cells #[.string (nmT f), .slice lo l.length lcap, .string (nmT t), .slice ro r.length rcap] 39) = w0 := ⟨_, rfl⟩
  rw [hw0] at hb0 BX
  have B0 := hid hb0
  have W0 := hid hw0
  have hs0 := hb0.size
  have V0 := hid (hv.below hb0)
  have L0 := hid (hl.below hb0)
  have R0 := hid (hr.below hb0)
  have VA := hid (ivalid_any ds v (f, t, l, r) (.slice lo l.length lcap) (.slice ro r.length rcap) w0 V0.out hg hd L0.out R0.out)
  obtain ⟨ao, cap, rfl, -, hc⟩ := V0.out.split
  obtain ⟨⟨b, off, rfl, hcf⟩, hTf⟩ := hc f _ hdf
  obtain ⟨⟨b', off', hbe, hct⟩, hTt⟩ := hc t _ hdt
  simp only [Option.some.injEq, Addr.mk.injEq] at hbe
  obtain ⟨rfl, rfl, -⟩ := hbe
  have OK1 := hid (hg.ok _ (List.mem_of_getElem? hdf))
  have OK2 := hid (hg.ok _ (List.mem_of_getElem? hdt))
  have S1 := hid (hg.row _ (List.mem_of_getElem? hdf))
  have S2 := hid (hg.row _ (List.mem_of_getElem? hdt))
  have nf : nD ds f = df.2.2.2.1.length := nD_at hdf
  have nt : nD ds t = dt.2.2.2.1.length := nD_at hdt
  have LL := hid (show ∀ a ∈ l, a < df.2.2.2.1.length from fun a ha => by rw [← nf]; exact hd.l a ha)
  have RR := hid (show ∀ a ∈ r, a < dt.2.2.2.1.length from fun a ha => by rw [← nt]; exact hd.r a ha)
  have L3 := hid (show l.length ≤ 3 from hd.short hg.db)
  have R3 := hid (show r.length ≤ 3 from by have h1 : l.length = r.length := hd.len; have := L3.out; omega)
  obtain ⟨avf, rvf, nmf, atf, rsf⟩ := df
  obtain ⟨avt, rvt, nmt, att, rst⟩ := dt
  obtain ⟨rof, rcf, hrf, -⟩ := RdR.split (hTf w0 (Below.refl _ _)).2
  obtain ⟨rot, rct, hrt, -⟩ := RdR.split (hTt w0 (Below.refl _ _)).2
  simp only at hrf hrt hcf hct OK1 OK2 S1 S2 LL RR
  subst hrf hrt
  have HF := hid (fun (W : World) (h : Below w0.heap.size w0 W) => (hcf W h).2.2)
  have HT := hid (fun (W : World) (h : Below w0.heap.size w0 W) => (hct W h).2.2)
  have TF := hid (show RdR w0 (.slice rof rsf.length rcf) rsf from (hTf w0 (Below.refl _ _)).2)
  have TT := hid (show RdR w0 (.slice rot rst.length rct) rst from (hTt w0 (Below.refl _ _)).2)
  have FF := hid (fun (W : World) (h : Below w0.heap.size w0 W) => (ifind_any (nmT f) ds _ W (V0.out.below h)).mono fun _ _ hq => hg.idx hd.f hq)
  have FT := hid (fun (W : World) (h : Below w0.heap.size w0 W) => (ifind_any (nmT t) ds _ W (V0.out.below h)).mono fun _ _ hq => hg.idx hd.t hq)
  show Calls _ _ _ _ (VioQ w (hldB rsf rst l r))
  have LH := hid (lack_hld rsf rst l r)
  obtain ⟨RES, hRES⟩ : ∃ R, hldB rsf rst l r = R := ⟨_, rfl⟩
  rw [hRES] at LH ⊢
  have f0 : (0 : Int) ≤ (f : Int) := by omega
  have t0 : (0 : Int) ≤ (t : Int) := by omega
  have f1 : (f : Int) < (ds.length : Int) := by have : f < ds.length := hd.f; omega
  have t1 : (t : Int) < (ds.length : Int) := by have : t < ds.length := hd.t; omega
  have sf6 : (rsf.length : Int) ≤ 6 := by have := S1.out; omega
  have st6 : (rst.length : Int) ≤ 6 := by have := S2.out; omega
  obtain ⟨x0, x1, x2, x3, x4⟩ := BX.out _ (Below.refl _ _)
  have hmm := @run_makeMap Tryz.prog
  clear hv hl hr hb0 hw0 hc hcf hct hTf hTt hdf hdt hd hg nf nt hRES HLD
  go_enter Tryz.func19, Tryz.ntmps19
  go_wp2_with fail
  rw [W0.out]
  go_wp2_with fail
  refine VA.out.mono ?_
  rintro e w1 ⟨rfl, hb1⟩
  have D1 := hid hb1
  clear x0 x1 x2 x3 x4 hb1
  have O2 := hid (OwnSB.made w1)
  have hb2 := below_alloc w1 (.map #[] 0)
  obtain ⟨kb, hkb⟩ : ∃ kb, w1.heap.size = kb := ⟨_, rfl⟩
  obtain ⟨w2, hw2⟩ : ∃ w2 : World, w1.alloc (.map #[] 0) = w2 := ⟨_, rfl⟩
  rw [hw2] at O2 hb2
  rw [hkb] at O2
  have HKB := hid hkb
  have W2 := hid hw2
  have SK := hid (show kb < w2.heap.size by rw [← hw2, ← hkb]; simp)
  have D2 := hid (D1.out.trans (hb2.mono D1.out.size))
  have K0 := hid (show w0.heap.size ≤ kb by rw [← hkb]; exact D1.out.size)
  clear hb2 hkb hw2
  go_upto_region 5 with fail
  rw [W2.out, HKB.out]
  have HB2 := hid (Below.refl w2.heap.size w2)
  have HS := hid (fun (W : World) (h : Below w2.heap.size w2 W) => show Below w2.heap.size w2 W ∧ (W.cell? ⟨w.heap.size, 0, none⟩ = some (.slice (some ⟨b, off, none⟩) ds.length cap) ∧ W.cell? ⟨w.heap.size + 1, 2, none⟩ = some (.string (nmT t))) ∧ W.cell? ⟨b, off + t * 3 + 2, none⟩ = some (.slice rot rst.length rct) from by
    have h0 := D2.out.trans (h.mono D2.out.size)
    exact ⟨h, ⟨(BX.out W h0).1, (BX.out W h0).2.2.2.1⟩, HT.out W h0⟩)
  go_region_held3 (fun W => Below w2.heap.size w2 W ∧ (W.cell? ⟨w.heap.size, 0, none⟩ = some (.slice (some ⟨b, off, none⟩) ds.length cap) ∧ W.cell? ⟨w.heap.size + 1, 2, none⟩ = some (.string (nmT t))) ∧ W.cell? ⟨b, off + t * 3 + 2, none⟩ = some (.slice rot rst.length rct))
    (first | exact HS.out _ (below_drewN' HB2.out _) | exact HS.out _ HB2.out.drew | exact HS.out _ HB2.out | exact HS.out _ (by assumption))
    (first
      | (go_at_call 45; have hS := And.left ‹Below w2.heap.size w2 _ ∧ _ ∧ _›; (with_reducible refine (FT.out _ (D2.out.trans (hS.mono D2.out.size))).mono ?_); rintro e wa ⟨rfl, hba⟩; have hLa := hS.trans (hba.mono hS.size); clear hba hS))
  all_goals
    have D3 := hid hLa
    clear hLa
    obtain ⟨w3, rfl⟩ : ∃ w3 : World, w3 = wa := ⟨_, rfl⟩
    have O3 := hid (OwnG.below O2.out D3.out)
    have D30 := hid (D2.out.trans (D3.out.mono D2.out.size))
    have SK3 := hid (show kb < w3.heap.size from Nat.lt_of_lt_of_le SK.out D3.out.size)
    go_wp2_with fail
    go_loopw [31] (fun x wr => ∃ k : Nat, k ≤ rst.length ∧ x = .int .i64 (k : Int) ∧ OwnSB wr kb k (keyLs (rst.take k) r) ∧ Hid (KeptX w3.heap.size kb w3 wr) ∧ w3.heap.size ≤ wr.heap.size) (fun x _ => rst.length - (intOf x).toNat)
    case atStart => exact ⟨0, Nat.zero_le _, rfl, by rw [List.take_zero]; exact O3.out, hid (KeptX.refl _ _ _), Nat.le_refl _⟩
    case round =>
      obtain ⟨k, hk, rfl, hown, HKX, hsz3⟩ := hrel
      have k0 : (0 : Int) ≤ (k : Int) := by omega
      have BW0 := hid (show Below w0.heap.size w0 wr from D30.out.trans (HKX.out.below.mono K0.out))
      by_cases hlt : k < rst.length
      · have hltI : (k : Int) < (rst.length : Int) := by omega
        obtain ⟨⟨rid, uv, xs⟩, hx⟩ := get_some hlt
        obtain ⟨ro', rcap', hve, -, hrc⟩ := RdR.split TT.out
        cases hve
        obtain ⟨⟨b1, off1, rfl, hce⟩, hrv1⟩ := hrc k _ hx
        obtain ⟨e0, e1⟩ := hce wr BW0.out
        have hrv2 := hrv1 wr BW0.out
        obtain ⟨uo, ucap, huv, -⟩ := RdV.split hrv2
        simp only at huv e0 e1
        subst huv
        have HOKX := hid (OK2.out _ (List.mem_of_getElem? hx))
        have KN := hid (keyLs_next (ms := r) hx)
        have ha1 := below_alloc wr (.cells #[.int .i64 rid, .slice uo xs.length ucap] 87)
        have CR := hid (fun (W : World) h => cells2 (w := wr) (a := .int .i64 rid) (b := .slice uo xs.length ucap) (t := 87) W h)
        obtain ⟨w4, hw4⟩ : ∃ w4 : World, wr.alloc (.cells #[.int .i64 rid, .slice uo xs.length ucap] 87) = w4 := ⟨_, rfl⟩
        rw [hw4] at ha1 CR
        have W4 := hid hw4
        obtain ⟨bq, hbq⟩ : ∃ bq, wr.heap.size = bq := ⟨_, rfl⟩
        have HBQ := hid hbq
        rw [hbq] at CR
        have BW4 := hid (BW0.out.trans (ha1.mono BW0.out.size))
        have O4 := hid (OwnG.below hown ha1)
        have X4 := hid (RdC.below hrv2 ha1)
        have HK4 := hid (HKX.out.later ha1 hsz3 (by have := SK3.out; omega))
        have SZ4 := hid (show w3.heap.size ≤ w4.heap.size from Nat.le_trans hsz3 ha1.size)
        obtain ⟨K, hK⟩ : ∃ K : KS, keyS r (rid, Value.slice uo xs.length ucap, xs) = K := ⟨_, rfl⟩
        rw [hK] at KN
        have AT := hid (show Calls Tryz.prog 46 #[.agg #[.int .i64 rid, .slice uo xs.length ucap], .slice ro r.length rcap] w4 fun e w' => e = .returned (.string K.1) ∧ Below w4.heap.size w4 w' from by
          rw [← hK]
          exact ikey_any rid xs (.slice uo xs.length ucap) r _ w4 X4.out (R0.out.below BW4.out) HOKX.out.2 (fun a ha => by rw [HOKX.out.1]; exact RR.out a ha) (by have := R3.out; omega))
        have HLT := hid hlt
        have KMX := hid (show k < maxLen by unfold maxLen; omega)
        clear hx hce hrc hrv1 hrv2 ha1 hw4 hbq hown hK hlt hk
        go_upto_region 8 with fail
        rw [W4.out, HBQ.out]
        obtain ⟨q0, q1⟩ := CR.out _ (Below.refl _ _)
        obtain ⟨x0, x1, x2, x3, x4⟩ := BX.out _ BW4.out
        go_wp2_with fail
        refine AT.out.mono ?_
        rintro e w5 ⟨rfl, hb5⟩
        have W5 := hid hb5
        have O5 := hid (show OwnSB w5 kb k (keyLs (rst.take k) r) from OwnG.below O4.out hb5)
        clear hb5 q0 q1 x0 x1 x2 x3 x4 e0 e1
        go_wp2_with (at_mapUpdate; refine wpList_gput (E := strKeys (P := Tryz.prog) (k := 9) undStrI) (z := .bool false) (e := 4) (b := kb) (n := k) (f := fun s => .bool (hasK (keyLs (rst.take k) r) s)) (p := hasK (keyLs (rst.take k) r)) rfl _ _ _ 107 rfl undMapSB rfl O5.out KMX.out K (.bool true) rfl rfl ?_)
        intro w6 ho6 hg6
        have O6 := hid (show OwnSB w6 kb (k + 1) (keyLs (rst.take (k + 1)) r) from by
          rw [KN.out]
          refine ho6.congr (fun t => ?_) (fun t => ?_)
          · show (if t = K then Value.bool true else .bool (hasK (keyLs (rst.take k) r) t)) = .bool (hasK (keyLs (rst.take k) r ++ [K]) t)
            rw [hasK_snoc]
            by_cases e : t = K
            · rw [if_pos e, if_pos e]
            · rw [if_neg e, if_neg e]
          · show (if t = K then true else hasK (keyLs (rst.take k) r) t) = hasK (keyLs (rst.take k) r ++ [K]) t
            rw [hasK_snoc])
        have HK6 := hid ((HK4.out.later W5.out SZ4.out (by have := SZ4.out; have := SK3.out; omega)).upd hg6 (Nat.le_trans SZ4.out W5.out.size) (Nat.le_of_lt SK3.out))
        have SZ6 := hid (show w3.heap.size ≤ w6.heap.size from Nat.le_trans (Nat.le_trans SZ4.out W5.out.size) hg6.size)
        clear ho6 hg6
        go_wp2_with fail
        go_roundw
        case rel => exact ⟨k + 1, by have := HLT.out; omega, by go_num, O6.out, HK6, SZ6.out⟩
        case measure => have := HLT.out; simp [intOf]; omega
      · have hltI : ¬ (k : Int) < (rst.length : Int) := by omega
        rw [List.take_of_length_le (by omega)] at hown
        obtain ⟨w5, rfl⟩ : ∃ w5 : World, w5 = wr := ⟨_, rfl⟩
        have O5 := hid hown
        have B5 := hid BW0.out
        clear hown hk hlt
        go_upto_region 11 with fail
        have HB5 := hid (Below.refl w5.heap.size w5)
        have HS5 := hid (fun (W : World) (h : Below w5.heap.size w5 W) => show Below w5.heap.size w5 W ∧ (W.cell? ⟨w.heap.size, 0, none⟩ = some (.slice (some ⟨b, off, none⟩) ds.length cap) ∧ W.cell? ⟨w.heap.size + 1, 0, none⟩ = some (.string (nmT f))) ∧ W.cell? ⟨b, off + f * 3 + 2, none⟩ = some (.slice rof rsf.length rcf) from by
          have h0 := B5.out.trans (h.mono B5.out.size)
          exact ⟨h, ⟨(BX.out W h0).1, (BX.out W h0).2.1⟩, HF.out W h0⟩)
        go_region_held3 (fun W => Below w5.heap.size w5 W ∧ (W.cell? ⟨w.heap.size, 0, none⟩ = some (.slice (some ⟨b, off, none⟩) ds.length cap) ∧ W.cell? ⟨w.heap.size + 1, 0, none⟩ = some (.string (nmT f))) ∧ W.cell? ⟨b, off + f * 3 + 2, none⟩ = some (.slice rof rsf.length rcf))
          (first | exact HS5.out _ (below_drewN' HB5.out _) | exact HS5.out _ HB5.out.drew | exact HS5.out _ HB5.out | exact HS5.out _ (by assumption))
          (first
            | (go_at_call 45; have hS := And.left ‹Below w5.heap.size w5 _ ∧ _ ∧ _›; (with_reducible refine (FF.out _ (B5.out.trans (hS.mono B5.out.size))).mono ?_); rintro e wa ⟨rfl, hba⟩; have hLa := hS.trans (hba.mono hS.size); clear hba hS))
        all_goals
          have D6 := hid hLa
          clear hLa
          obtain ⟨w6, rfl⟩ : ∃ w6 : World, w6 = wa := ⟨_, rfl⟩
          have O6 := hid (show OwnSB w6 kb k (keyLs rst r) from OwnG.below O5.out D6.out)
          have B6 := hid (B5.out.trans (D6.out.mono B5.out.size))
          have BW6 := hid (B0.out.trans (B6.out.mono hs0))
          go_wp2_with fail
          go_loopw [10, 52] (fun o x wr => ∃ j : Nat, j ≤ rsf.length ∧ x = .int .i64 (j : Int) ∧ wr.ownsRow w6.heap.size 2 1 o (((rsf.take j).filter (lackP (keyLs rst r) l)).map (·.1)).length ((((rsf.take j).filter (lackP (keyLs rst r) l)).map (·.1)).map encJ) ∧ Below w6.heap.size w6 wr) (fun _ x _ => rsf.length - (intOf x).toNat)
          case atStart => exact ⟨0, Nat.zero_le _, rfl, World.ownsRow_nil _ _ _ _, Below.refl _ _⟩
          case round =>
            obtain ⟨j, hj, rfl, hown, hnx⟩ := hrel
            have j0 : (0 : Int) ≤ (j : Int) := by omega
            have NX := hid hnx
            have HO := hid hown
            have hsz := hnx.size
            have BW := hid (show Below w0.heap.size w0 wr from B6.out.trans (hnx.mono B6.out.size))
            have OL := hid (show (((rsf.take j).filter (lackP (keyLs rst r) l)).map (·.1)).length ≤ 6 from by
              rw [List.length_map]
              have h1 := List.length_filter_le (lackP (keyLs rst r) l) (rsf.take j)
              rw [List.length_take] at h1
              have := S1.out
              omega)
            by_cases hlt : j < rsf.length
            · have hltI : (j : Int) < (rsf.length : Int) := by omega
              obtain ⟨⟨rid, uv, xs⟩, hx⟩ := get_some hlt
              obtain ⟨ro', rcap', hve, -, hrc⟩ := RdR.split TF.out
              cases hve
              obtain ⟨⟨b1, off1, rfl, hce⟩, hrv1⟩ := hrc j _ hx
              obtain ⟨e0, e1⟩ := hce wr BW.out
              have hrv2 := hrv1 wr BW.out
              obtain ⟨uo, ucap, huv, -⟩ := RdV.split hrv2
              simp only at huv e0 e1
              subst huv
              have HOKX := hid (OK1.out _ (List.mem_of_getElem? hx))
              have ha1 := below_alloc wr (.cells #[.int .i64 rid, .slice uo xs.length ucap] 87)
              have CR := hid (fun (W : World) h => cells2 (w := wr) (a := .int .i64 rid) (b := .slice uo xs.length ucap) (t := 87) W h)
              obtain ⟨w7, hw7⟩ : ∃ w7 : World, wr.alloc (.cells #[.int .i64 rid, .slice uo xs.length ucap] 87) = w7 := ⟨_, rfl⟩
              rw [hw7] at ha1 CR
              have W7 := hid hw7
              obtain ⟨bq, hbq⟩ : ∃ bq, wr.heap.size = bq := ⟨_, rfl⟩
              have HBQ := hid hbq
              rw [hbq] at CR
              have BW7 := hid (BW.out.trans (ha1.mono BW.out.size))
              have N7 := hid (hnx.trans (ha1.mono hsz))
              have X7 := hid (RdC.below hrv2 ha1)
              have O7 := hid (own_below hown ha1)
              obtain ⟨K, hK⟩ : ∃ K : KS, keyS l (rid, Value.slice uo xs.length ucap, xs) = K := ⟨_, rfl⟩
              obtain ⟨hs, hhs⟩ : ∃ hs, hasK (keyLs rst r) K = hs := ⟨_, rfl⟩
              have LP := hid (show lackP (keyLs rst r) l (rid, Value.slice uo xs.length ucap, xs) = !hs from by unfold lackP; rw [hK, hhs])
              have NXF := hid (filter_next hx (lackP (keyLs rst r) l))
              have HHS := hid hhs
              have AT := hid (show Calls Tryz.prog 46 #[.agg #[.int .i64 rid, .slice uo xs.length ucap], .slice lo l.length lcap] w7 fun e w' => e = .returned (.string K.1) ∧ Below w7.heap.size w7 w' from by
                rw [← hK]
                exact ikey_any rid xs (.slice uo xs.length ucap) l _ w7 X7.out (L0.out.below BW7.out) HOKX.out.2 (fun a ha => by rw [HOKX.out.1]; exact LL.out a ha) (by have := L3.out; omega))
              have HLT := hid hlt
              clear hx hce hrc hrv1 hrv2 ha1 hw7 hbq hown hK hlt hj hnx hhs
              go_upto_region 14 with fail
              rw [W7.out, HBQ.out]
              obtain ⟨q0, q1⟩ := CR.out _ (Below.refl _ _)
              obtain ⟨x0, x1, x2, x3, x4⟩ := BX.out _ BW7.out
              go_wp2_with fail
              refine AT.out.mono ?_
              rintro e w8 ⟨rfl, hb8⟩
              have W8 := hid hb8
              have N8 := hid (N7.out.trans (hb8.mono N7.out.size))
              have O8 := hid (own_below O7.out hb8)
              have OM8 := hid (show OwnSB w8 kb k (keyLs rst r) from OwnG.below O6.out N8.out)
              have LK := OM8.out.look K
              rw [HHS.out] at LK
              clear x0 x1 x2 x3 x4 q0 q1 e0 e1 hb8
              obtain ⟨q0, q1⟩ := CR.out _ W8.out
              have csh : hs = true ∨ hs = false := by cases hs <;> simp
              rcases csh with rfl | rfl
              · have OE := hid (show w8.ownsRow w6.heap.size 2 1 u10 (((rsf.take (j + 1)).filter (lackP (keyLs rst r) l)).map (·.1)).length ((((rsf.take (j + 1)).filter (lackP (keyLs rst r) l)).map (·.1)).map encJ) from by
                  rw [NXF.out, LP.out]; simpa using O8.out)
                go_wp2_with fail
                go_roundw
                case rel => exact ⟨j + 1, by have := HLT.out; omega, by go_num, OE.out, N8.out⟩
                case measure => have := HLT.out; simp [intOf]; omega
              · have TOQ := hid (show ((rsf.take (j + 1)).filter (lackP (keyLs rst r) l)).map (·.1) = ((rsf.take j).filter (lackP (keyLs rst r) l)).map (·.1) ++ [rid] from by
                  rw [NXF.out, LP.out]; simp)
                obtain ⟨out, hout⟩ : ∃ out : List Int, ((rsf.take j).filter (lackP (keyLs rst r) l)).map (·.1) = out := ⟨_, rfl⟩
                rw [hout] at O8 OL TOQ
                clear hout O7 HO
                obtain ⟨oo, oc, hoo⟩ := own_sliceG O8.out
                subst hoo
                go_wp2_with (at_builtin; refine wpList_push rfl _ _ 70 rfl w6.heap.size 2 (.int .i64 0) 8 undG64 info64 rfl (by decide) encJ (fun _ => rfl) _ out rfl (O8.out.alloc _) ⟨w8.heap.size, 0, none⟩ rid rfl cell_new (by have := OL.out; omega) (by have := N8.out.size; simp; omega) ?_)
                intro v9 w9 ho9 hg9
                have hb9 := hid (below_push N8.out N8.out.size O8.out hg9)
                have OE := hid (show w9.ownsRow w6.heap.size 2 1 v9 (((rsf.take (j + 1)).filter (lackP (keyLs rst r) l)).map (·.1)).length ((((rsf.take (j + 1)).filter (lackP (keyLs rst r) l)).map (·.1)).map encJ) from by
                  rw [TOQ.out]; simpa using ho9)
                clear ho9 hg9
                go_wp2_with fail
                go_roundw
                case rel => exact ⟨j + 1, by have := HLT.out; omega, by go_num, OE.out, hb9.out⟩
                case measure => have := HLT.out; simp [intOf]; omega
            · have hltI : ¬ (j : Int) < (rsf.length : Int) := by omega
              rw [List.take_of_length_le (by omega)] at hown
              obtain ⟨oo, oc, hoo⟩ := own_sliceG hown
              obtain ⟨n, hn⟩ : ∃ n, ((rsf.filter (lackP (keyLs rst r) l)).map (·.1)).length = n := ⟨_, rfl⟩
              rw [hn] at hoo
              have FIN := hid (show VioQ w RES (.returned (.tuple #[u10, .int .i64 0])) wr from ⟨oo, n, oc, by rw [hoo], by rw [← LH.out, ← hn, List.length_map], BW6.out.trans (hnx.mono BW6.out.size)⟩)
              clear hn
              subst hoo
              clear hown hnx HO
              go_wp2_with fail
              go_ret2
              exact FIN.out

set_option maxHeartbeats 1600000 in
theorem iholds_any (ds : List D3) (v : Value) (d : DN) (lv rv : Value) (w : World) (hv : RdDb w v ds) (hg : GoodD ds) (hd : VI ds.length (nD ds) d) (hl : RdE encI w lv d.2.2.1) (hr : RdE encI w rv d.2.2.2) :
    Calls Tryz.prog 7 #[.agg #[v], .agg #[.string (nmT d.1), lv, .string (nmT d.2.1), rv]] w fun e w' => e = .returned (.tuple #[.bool (hldD (rD ds) d), .int .i64 0]) ∧ Below w.heap.size w w' := by
  have hb0 := (below_alloc w (.cells #[v] 29)).trans ((below_alloc (w.alloc (.cells #[v] 29)) (.cells #[.string (nmT d.1), lv, .string (nmT d.2.1), rv] 39)).mono (by simp))
  have BX := hid (boxDI w v (.string (nmT d.1)) lv (.string (nmT d.2.1)) rv)
  obtain ⟨w0, hw0⟩ : ∃ w0 : World, (w.alloc (.cells #[v] 29)).alloc (.cells #[.string (nmT d.1), lv, .string (nmT d.2.1), rv] 39) = w0 := ⟨_, rfl⟩
  rw [hw0] at hb0 BX
  have B0 := hid hb0
  have W0 := hid hw0
  have hs0 := hb0.size
  have VI := hid (ivio_any ds v d lv rv w0 (hv.below hb0) hg hd (hl.below hb0) (hr.below hb0))
  obtain ⟨ao, cap, rfl, -⟩ := hv.split
  obtain ⟨lo, lcap, rfl, -⟩ := hl.split
  obtain ⟨ro, rcap, rfl, -⟩ := hr.split
  obtain ⟨RES, hRES⟩ : ∃ R, hldD (rD ds) d = R := ⟨_, rfl⟩
  rw [hRES] at VI ⊢
  obtain ⟨x0, x1, x2, x3, x4⟩ := BX.out _ (Below.refl _ _)
  clear hv hb0 hw0 hg hd hl hr hRES
  go_enter Tryz.func7, Tryz.ntmps7
  go_wp2_with fail
  rw [W0.out]
  go_wp2_with fail
  refine VI.out.mono ?_
  rintro e w1 ⟨o, n, c, rfl, hn, hb1⟩
  have B1 := hid (B0.out.trans (hb1.mono hs0))
  have HN := hid hn
  have nI : ((n : Int) == 0) = RES := by rw [← hn, Bool.eq_iff_iff, beq_iff_eq, decide_eq_true_iff]; omega
  clear x0 x1 x2 x3 x4 hb1 hn
  go_wp2_with fail
  go_ret2
  exact ⟨by first | rfl | rw [nI], B1.out⟩

end Go.Proofs.YtgahpgmagfngfaaGreatDoor

