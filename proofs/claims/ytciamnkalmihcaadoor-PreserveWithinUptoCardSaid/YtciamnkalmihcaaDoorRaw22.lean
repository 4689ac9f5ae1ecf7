/- The walks of raw, sets, parts and awake of chapter 22. -/
import Derived.Test.YtciamnkalmihcaaDoorPref2
import Derived.Test.YtciamnkalmihcaaDoorPres5
import Derived.Test.YtciamnkalmihcaaDoorLit
import Derived.Test.YtciamnkalmihcaaDoorOpen
namespace Go.Proofs.YtciamnkalmihcaaDoor
open Go.RowKit

set_option maxRecDepth 100000 in
theorem raw22_any (fs : List F) (v : Value) (w : World) (hv : RdF w v fs) (hl : fs.length < 1099511627776) :
    Calls Tryd.prog 13 #[v] w fun e w' => ∃ v', e = .returned v' ∧ RdF w' v' fs ∧ Below w.heap.size w w' := by
  obtain ⟨ao, cap, rfl, -, hc⟩ := hv.split
  have FC := hid hc
  clear hv hc
  go_enter Tryd.func13, Tryd.ntmps13
  go_wp2_with fail
  go_loopw [3, 8] (fun o i wr => ∃ k : Nat, k ≤ fs.length ∧ i = .int .i64 k ∧ wr.ownsRow w.heap.size 34 2 o (fs.take k).length ((fs.take k).flatMap cF) ∧ Below w.heap.size w wr) (fun _ i _ => fs.length - (intOf i).toNat)
  case atStart => exact ⟨0, Nat.zero_le _, rfl, World.ownsRow_nil _ _ _ _, Below.refl _ _⟩
  case round =>
    obtain ⟨k, hk, rfl, hown, hnx⟩ := hrel
    have hsz := hnx.size
    have hll : (fs.take k).length ≤ k := by simp; omega
    by_cases hlt : k < fs.length
    · obtain ⟨f, hf⟩ := get_some hlt
      obtain ⟨b, off, rfl, hfc⟩ := FC.out k f hf
      obtain ⟨e0, e1⟩ := hfc wr hnx
      have N := hid (take_next hf)
      clear hfc hf
      generalize fs.take k = xs at *
      have hb1 := below_alloc wr (.cells #[.int .u32 (iv f.1), .int .u32 (iv f.2)] 51)
      have hown1 := own_below hown hb1
      have hnx1 := hnx.trans (hb1.mono hsz)
      have HO := hid hown1
      have HN := hid hnx1
      have hs1 := hnx1.size
      clear hown hnx hb1 hown1 hnx1
      have hz : (wr.alloc (.cells #[.int .u32 (iv f.1), .int .u32 (iv f.2)] 51)).heap.size = wr.heap.size + 1 := by simp
      have CN := hid (cells_newF (wr.alloc (.cells #[.int .u32 (iv f.1), .int .u32 (iv f.2)] 51)) f (t := 34))
      rw [hz] at CN
      go_wp2_with (at_builtin; refine wpList_pushC rfl _ _ 27 rfl w.heap.size 34 (.agg #[.int .u32 0, .int .u32 0]) 2 8 undFDs infoFD rfl (by decide) (by decide) cF cF_length cF_one _ xs rfl (HO.out.alloc _) ⟨wr.heap.size + 1, 0, none⟩ f rfl CN.out (by first | omega | (simp; omega)) (by first | omega | (simp; omega)) ?_)
      intro v' w4 hown' hgrow
      have hb4 : Below w.heap.size w w4 := below_push HN.out hs1 HO.out hgrow
      clear hgrow HO HN e0 e1
      go_wp2_with fail
      go_roundw
      case rel => exact ⟨k + 1, by omega, by go_num, by rw [N.out]; simpa using hown', hb4⟩
      case measure => simp [intOf]; omega
    · rw [take_all hlt] at hown
      have R := hid (RdC.of_owns cF_length hown (by omega))
      go_wp2_with fail
      go_ret
      exact ⟨_, rfl, R.out, hnx⟩



set_option maxRecDepth 100000 in
theorem sets22_any (xs : List S) (v : Value) (w : World) (hv : RdE enc w v xs) (hl : xs.length < 1099511627776) :
    Calls Tryd.prog 21 #[v] w fun e w' => ∃ v', e = .returned v' ∧ RdE enc w' v' xs ∧ Below w.heap.size w w' := by
  obtain ⟨ao, cap, rfl, -, hc⟩ := hv.split
  have FC := hid hc
  clear hv hc
  go_enter Tryd.func21, Tryd.ntmps21
  go_wp2_with fail
  go_loopw [3, 8] (fun o i wr => ∃ k : Nat, k ≤ xs.length ∧ i = .int .i64 k ∧ wr.ownsRow w.heap.size 25 1 o (xs.take k).length ((xs.take k).map enc) ∧ Below w.heap.size w wr) (fun _ i _ => xs.length - (intOf i).toNat)
  case atStart => exact ⟨0, Nat.zero_le _, rfl, World.ownsRow_nil _ _ _ _, Below.refl _ _⟩
  case round =>
    obtain ⟨k, hk, rfl, hown, hnx⟩ := hrel
    have hsz := hnx.size
    have hll : (xs.take k).length ≤ k := by simp; omega
    by_cases hlt : k < xs.length
    · obtain ⟨x, hx⟩ := get_some hlt
      obtain ⟨b, off, rfl, hfc⟩ := FC.out k x hx
      have e0 : wr.cell? ⟨b, off + k, none⟩ = some (.int .u32 (iv x)) := hfc wr hnx
      have N := hid (take_next hx)
      clear hfc hx
      generalize xs.take k = zs at *
      go_wp2_with (at_builtin; refine wpList_push rfl _ _ 52 rfl w.heap.size 25 (.int .u32 0) 4 undSets infoSet rfl (by decide) enc (fun _ => rfl) _ zs rfl (hown.alloc _) ⟨wr.heap.size, 0, none⟩ x rfl cell_new (by omega) (by simp; omega) ?_)
      intro v' w4 hown' hgrow
      have hb4 := below_push hnx hsz hown hgrow
      clear hgrow hown hnx e0
      go_wp2_with fail
      go_roundw
      case rel => exact ⟨k + 1, by omega, by go_num, by rw [N.out]; simpa using hown', hb4⟩
      case measure => simp [intOf]; omega
    · rw [take_all hlt] at hown
      have R := hid (RdE.of_owns hown (by omega))
      go_wp2_with fail
      go_ret
      exact ⟨_, rfl, R.out, hnx⟩

/-- The parts that the laws make of numbers. -/
def partsS (A : S) (bs : List U8) : List S := bs.map fun b => wd b &&& A
theorem partsS_next {A : S} {bs : List U8} {k : Nat} {b : U8} (h : bs[k]? = some b) : partsS A (bs.take (k + 1)) = partsS A (bs.take k) ++ [wd b &&& A] := by
  unfold partsS; rw [take_next h, List.map_append]; rfl
theorem partsS_length (A : S) (bs : List U8) : (partsS A bs).length = bs.length := by unfold partsS; simp
theorem partsS_sub {A : S} {bs : List U8} {p : S} (h : p ∈ partsS A bs) : sub p A := by
  unfold partsS at h
  obtain ⟨b, _, rfl⟩ := List.mem_map.1 h
  exact and_sub_right _ _

set_option maxRecDepth 100000 in
theorem parts_any (n : Int) (bs : List U8) (v : Value) (w : World) (hv : RdE enc8 w v bs) (hl : bs.length < 1099511627776) :
    Calls Tryd.prog 32 #[.int .i64 n, v] w fun e w' => ∃ v', e = .returned (.tuple #[v', .bool (decide (bs.length ≤ 4))]) ∧ RdE enc w' v' (partsS (fullN (min n.toNat 32)) bs) ∧ Below w.heap.size w w' := by
  have FU := hid (fun (W : World) => full_any n W)
  obtain ⟨ao, cap, rfl, -, hc⟩ := hv.split
  have FC := hid hc
  have hq : decide ((bs.length : Int) ≤ 4) = decide (bs.length ≤ 4) := by rw [decide_eq_decide]; omega
  rw [← hq]
  clear hv hc hq
  have PL := hid (partsS_length (fullN (min n.toNat 32)) bs)
  generalize fullN (min n.toNat 32) = A at *
  simp only [enc_eq] at FU
  go_enter Tryd.func32, Tryd.ntmps32
  go_wp2_with fail
  go_loopw [6, 11] (fun o i wr => ∃ k : Nat, k ≤ bs.length ∧ i = .int .i64 k ∧ wr.ownsRow w.heap.size 25 1 o (partsS A (bs.take k)).length ((partsS A (bs.take k)).map enc) ∧ Below w.heap.size w wr) (fun _ i _ => bs.length - (intOf i).toNat)
  case atStart => exact ⟨0, Nat.zero_le _, rfl, World.ownsRow_nil _ _ _ _, Below.refl _ _⟩
  case round =>
    obtain ⟨k, hk, rfl, hown, hnx⟩ := hrel
    have hsz := hnx.size
    have hll : (partsS A (bs.take k)).length ≤ k := by rw [partsS_length]; simp; omega
    by_cases hlt : k < bs.length
    · obtain ⟨x, hx⟩ := get_some hlt
      obtain ⟨b, off, rfl, hfc⟩ := FC.out k x hx
      have e0 : wr.cell? ⟨b, off + k, none⟩ = some (.int .u8 (x.toNat : Int)) := hfc wr hnx
      have N := hid (partsS_next (A := A) hx)
      have d0 : (x.toNat : Int) < 256 := by have := x.isLt; omega
      have d1 : (0 : Int) ≤ (x.toNat : Int) := by omega
      clear hfc hx
      generalize partsS A (bs.take k) = zs at *
      go_wp2_with fail
      refine (FU.out _).mono ?_
      rintro e w2 ⟨rfl, rfl⟩
      go_wp2_with (at_builtin; refine wpList_push rfl _ _ 52 rfl w.heap.size 25 (.int .u32 0) 4 undSets infoSet rfl (by decide) enc (fun _ => rfl) _ zs rfl (hown.alloc _) ⟨wr.heap.size, 0, none⟩ (wd x &&& A) rfl cell_new (by omega) (by simp; omega) ?_)
      intro v' w4 hown' hgrow
      have hb4 := below_push hnx hsz hown hgrow
      clear hgrow hown hnx e0
      go_wp2_with fail
      go_roundw
      case rel => exact ⟨k + 1, by omega, by go_num, by rw [N.out]; simpa using hown', hb4⟩
      case measure => simp [intOf]; omega
    · rw [take_all hlt] at hown
      have hbl := bs.length
      have R := hid (RdE.of_owns hown (by rw [PL.out]; omega))
      clear hown
      go_wp2_with fail
      go_ret2
      exact ⟨_, rfl, R.out, hnx⟩

/-! The examples. -/
theorem lost_ch1 : lostI exCh [3#32, 5#32] = [1] := by
  have h0 : lostB exCh [3#32, 5#32] 0 = false := by
    unfold lostB presB keptS; rw [show exCh.getD 0 (0#32, 0#32) = (1#32, 2#32) from rfl, ex22_a]; decide +kernel
  have h1 : lostB exCh [3#32, 5#32] 1 = true := by
    unfold lostB presB keptS; rw [show exCh.getD 1 (0#32, 0#32) = (2#32, 4#32) from rfl, ex22_b]; decide +kernel
  show [0, 1].filter (lostB exCh [3#32, 5#32]) = [1]
  simp [h0, h1]
theorem lost_ch2 : lostI exCh [3#32, 6#32] = [] := by
  have h0 : lostB exCh [3#32, 6#32] 0 = false := by
    unfold lostB presB keptS; rw [show exCh.getD 0 (0#32, 0#32) = (1#32, 2#32) from rfl, ex22_c]; decide +kernel
  have h1 : lostB exCh [3#32, 6#32] 1 = false := by
    unfold lostB presB keptS; rw [show exCh.getD 1 (0#32, 0#32) = (2#32, 4#32) from rfl, ex22_d]; decide +kernel
  show [0, 1].filter (lostB exCh [3#32, 6#32]) = []
  simp [h0, h1]
theorem lost_ad : lostI exAd [5#32, 6#32] = [0] := by
  have h0 : lostB exAd [5#32, 6#32] 0 = true := by
    unfold lostB presB keptS; rw [show exAd.getD 0 (0#32, 0#32) = (3#32, 4#32) from rfl, ex22_e]; decide +kernel
  have h1 : lostB exAd [5#32, 6#32] 1 = false := by
    unfold lostB presB keptS; rw [show exAd.getD 1 (0#32, 0#32) = (4#32, 2#32) from rfl, ex22_f]; decide +kernel
  show [0, 1].filter (lostB exAd [5#32, 6#32]) = [0]
  simp [h0, h1]
theorem lost_ri : lostI exRi [3#32, 6#32] = [] := by
  have h0 : lostB exRi [3#32, 6#32] 0 = false := by
    unfold lostB presB keptS; rw [show exRi.getD 0 (0#32, 0#32) = (1#32, 2#32) from rfl, ex22_g]; decide +kernel
  have h1 : lostB exRi [3#32, 6#32] 1 = false := by
    unfold lostB presB keptS; rw [show exRi.getD 1 (0#32, 0#32) = (2#32, 4#32) from rfl, ex22_h]; decide +kernel
  have h2 : lostB exRi [3#32, 6#32] 2 = false := by
    unfold lostB presB keptS; rw [show exRi.getD 2 (0#32, 0#32) = (4#32, 1#32) from rfl, ex22_i]; decide +kernel
  show [0, 1, 2].filter (lostB exRi [3#32, 6#32]) = []
  simp [h0, h1, h2]

theorem projectR (fs : List F) (s : S) (hp : (projR fs s).length ≤ 35184372088832) (v : Value) (w : World) (hT : Tab w) (hv : RdF w v fs) :
    Calls Tryd.prog 12 #[v, enc s] w fun e w' => ∃ v', e = .returned (.tuple #[v', .int .i64 (projE fs s)]) ∧ RdF w' v' (projR fs s) ∧ Below w.heap.size w w' :=
  (project_any fs s v w hT hv).mono fun _ _ ⟨v', he, ho, hb⟩ => ⟨v', he, RdC.of_owns cF_length ho hp, hb⟩
theorem lost_lit (fs : List F) (ps : List S) (r : List Nat) (hr : lostI fs ps = r) (v : Value) (W : World) (o : Obj) (ho : o = .cells (ps.map enc).toArray 25) (m : Nat) (hm : m = ps.length) (hl : ps.length ≤ 1000) (hfl : fs.length ≤ 1000) (h : RdF W v fs) :
    Calls Tryd.prog 30 #[v, .slice (some ⟨W.heap.size, 0, none⟩) m m] (W.alloc o) fun e w' => ∃ v', e = .returned v' ∧ RdE encI w' v' r ∧ Below W.heap.size W w' := by
  subst ho hm hr
  exact (lost_any fs ps v _ _ (h.below (below_alloc _ _)) (RdE.lit W ps _ hl) (by omega)).mono fun e w' ⟨v', he, hr, hb⟩ => ⟨v', he, hr, (below_alloc _ _).trans (hb.mono (below_alloc _ _).size)⟩
theorem all_lit (fs : List F) (ps : List S) (hr : lostI fs ps = []) (v : Value) (W : World) (o : Obj) (ho : o = .cells (ps.map enc).toArray 25) (m : Nat) (hm : m = ps.length) (hl : ps.length ≤ 1000) (hfl : fs.length ≤ 1000) (h : RdF W v fs) :
    Calls Tryd.prog 31 #[v, .slice (some ⟨W.heap.size, 0, none⟩) m m] (W.alloc o) fun e w' => e = .returned (.bool true) ∧ Below W.heap.size W w' := by
  subst ho hm
  exact (all_any fs ps v _ _ (h.below (below_alloc _ _)) (RdE.lit W ps _ hl) (by omega)).mono fun e w' ⟨he, hb⟩ => ⟨by rw [he, hr]; rfl, (below_alloc _ _).trans (hb.mono (below_alloc _ _).size)⟩
theorem kept_lit (fs : List F) (ps : List S) (z r : S) (hr : keptS fs ps z = r) (v : Value) (W : World) (o : Obj) (ho : o = .cells (ps.map enc).toArray 25) (m : Nat) (hm : m = ps.length) (hl : ps.length ≤ 1000) (h : RdF W v fs) :
    Calls Tryd.prog 22 #[v, .slice (some ⟨W.heap.size, 0, none⟩) m m, enc z] (W.alloc o) fun e w' => e = .returned (enc r) ∧ Below W.heap.size W w' := by
  subst ho hm hr
  exact (kept_any fs ps z v _ _ (h.below (below_alloc _ _)) (RdE.lit W ps _ hl)).mono fun e w' ⟨he, hb⟩ => ⟨he, (below_alloc _ _).trans (hb.mono (below_alloc _ _).size)⟩
theorem trace_lit (fs : List F) (ps : List S) (z : S) (r : List Nat) (hr : (followS fs ps z).2 = r) (v : Value) (W : World) (o : Obj) (ho : o = .cells (ps.map enc).toArray 25) (m : Nat) (hm : m = ps.length) (hl : ps.length ≤ 1000) (h : RdF W v fs) :
    Calls Tryd.prog 27 #[v, .slice (some ⟨W.heap.size, 0, none⟩) m m, enc z] (W.alloc o) fun e w' => ∃ v', e = .returned v' ∧ RdE encI w' v' r ∧ Below W.heap.size W w' := by
  subst ho hm hr
  exact (ptrace_any fs ps z v _ _ (h.below (below_alloc _ _)) (RdE.lit W ps _ hl)).mono fun e w' ⟨v', he, hr, hb⟩ => ⟨v', he, hr, (below_alloc _ _).trans (hb.mono (below_alloc _ _).size)⟩

set_option maxHeartbeats 1600000 in
set_option maxRecDepth 100000 in
theorem awake22_any (w : World) (hT : Tab w) : Calls Tryd.prog 11 #[] w fun e w' => e = .returned (.bool true) ∧ Below w.heap.size w w' := by
  obtain ⟨h1, b1⟩ := lit_call (fs := exCh) (m := 2) (o := .cells #[.int .u32 1, .int .u32 2, .int .u32 2, .int .u32 4] 34) rfl (by decide) rfl w
  obtain ⟨h2, b2⟩ := lit_call (fs := exAd) (m := 2) (o := .cells #[.int .u32 3, .int .u32 4, .int .u32 4, .int .u32 2] 34) rfl (by decide) rfl (w.alloc (.cells #[.int .u32 1, .int .u32 2, .int .u32 2, .int .u32 4] 34))
  obtain ⟨h3, b3⟩ := lit_call (fs := exRi) (m := 3) (o := .cells #[.int .u32 1, .int .u32 2, .int .u32 2, .int .u32 4, .int .u32 4, .int .u32 1] 34) rfl (by decide) rfl ((w.alloc (.cells #[.int .u32 1, .int .u32 2, .int .u32 2, .int .u32 4] 34)).alloc (.cells #[.int .u32 3, .int .u32 4, .int .u32 4, .int .u32 2] 34))
  have k1 := (h1.below b2).below b3
  have k2 := h2.below b3
  have bb := b1.trans ((b2.trans (b3.mono b2.size)).mono b1.size)
  obtain ⟨w0, hw0⟩ : ∃ w0 : World, ((w.alloc (.cells #[.int .u32 1, .int .u32 2, .int .u32 2, .int .u32 4] 34)).alloc (.cells #[.int .u32 3, .int .u32 4, .int .u32 4, .int .u32 2] 34)).alloc (.cells #[.int .u32 1, .int .u32 2, .int .u32 2, .int .u32 4, .int .u32 4, .int .u32 1] 34) = w0 := ⟨_, rfl⟩
  rw [hw0] at h3 k1 k2 bb
  have z1 : (w.alloc (.cells #[.int .u32 1, .int .u32 2, .int .u32 2, .int .u32 4] 34)).heap.size = w.heap.size + 1 := by simp
  have z2 : ((w.alloc (.cells #[.int .u32 1, .int .u32 2, .int .u32 2, .int .u32 4] 34)).alloc (.cells #[.int .u32 3, .int .u32 4, .int .u32 4, .int .u32 2] 34)).heap.size = w.heap.size + 2 := by simp
  rw [z1] at k2
  rw [z2] at h3
  have RA := hid k1
  have RB := hid k2
  have RC := hid h3
  have B0 := hid bb
  have W0 := hid hw0
  clear h1 h2 h3 k1 k2 b1 b2 b3 bb hw0 z1 z2
  have C1 := hid (fun (v : Value) (W : World) (hb : Below w.heap.size w W) (h : RdF W v exCh) => projectR exCh 5#32 (by rw [ex22_proj]; decide) v W (hT.below hb) h)
  rw [ex22_proj, exCh_valid, show enc 5#32 = .int .u32 5 from rfl] at C1
  have E1 := hid (fun (W : World) (v : Value) (h : RdF W v [(1#32, 4#32)]) => equalF_lit [(1#32, 4#32)] v W (.cells #[.int .u32 1, .int .u32 4] 34) rfl 1 rfl (by decide) h)
  have C2 := hid (fun (W : World) (v : Value) (h : RdF W v exCh) => lost_lit exCh [3#32, 5#32] [1] lost_ch1 v W (.cells #[.int .u32 3, .int .u32 5] 25) rfl 2 rfl (by decide) (by decide) h)
  have E2 := hid (fun (W : World) (v : Value) (h : RdE encI W v [1]) => equalI_lit [1] v W (.cells #[.int .i64 1] 3) rfl 1 rfl (by decide) h)
  have C3 := hid (fun (W : World) (v : Value) (h : RdF W v exCh) => all_lit exCh [3#32, 6#32] lost_ch2 v W (.cells #[.int .u32 3, .int .u32 6] 25) rfl 2 rfl (by decide) (by decide) h)
  have C4 := hid (fun (W : World) (v : Value) (h : RdF W v exAd) => lost_lit exAd [5#32, 6#32] [0] lost_ad v W (.cells #[.int .u32 5, .int .u32 6] 25) rfl 2 rfl (by decide) (by decide) h)
  have E4 := hid (fun (W : World) (v : Value) (h : RdE encI W v [0]) => equalI_lit [0] v W (.cells #[.int .i64 0] 3) rfl 1 rfl (by decide) h)
  have C5 := hid (fun (W : World) (v : Value) (h : RdF W v exAd) => kept_lit exAd [5#32, 6#32] 3#32 3#32 (by unfold keptS; rw [ex22_e]) v W (.cells #[.int .u32 5, .int .u32 6] 25) rfl 2 rfl (by decide) h)
  rw [show enc 3#32 = .int .u32 3 from rfl] at C5
  have C6 := hid (fun (W : World) (v : Value) (h : RdF W v exRi) => all_lit exRi [3#32, 6#32] lost_ri v W (.cells #[.int .u32 3, .int .u32 6] 25) rfl 2 rfl (by decide) (by decide) h)
  have C7 := hid (fun (W : World) (v : Value) (h : RdF W v exRi) => trace_lit exRi [3#32, 6#32] 4#32 [1, 0] (by rw [ex22_i]) v W (.cells #[.int .u32 3, .int .u32 6] 25) rfl 2 rfl (by decide) h)
  rw [show enc 4#32 = .int .u32 4 from rfl] at C7
  have E7 := hid (fun (W : World) (v : Value) (h : RdE encI W v [1, 0]) => equalI_lit [1, 0] v W (.cells #[.int .i64 1, .int .i64 0] 3) rfl 2 rfl (by decide) h)
  go_enter Tryd.func11, Tryd.ntmps11
  go_wp2_with fail
  rw [W0.out]
  refine (C1.out _ _ B0.out RA.out).mono ?_
  rintro e w1 ⟨v1, rfl, hr1, hb1⟩
  have B1 := hid (B0.out.trans (hb1.mono B0.out.size))
  replace RA := hid (RA.out.below hb1)
  replace RB := hid (RB.out.below hb1)
  replace RC := hid (RC.out.below hb1)
  have R1 := hid hr1
  clear hr1 hb1
  go_wp2_with fail
  refine (E1.out _ _ R1.out).mono ?_
  rintro e w2 ⟨rfl, hb2⟩
  have B2 := hid (B1.out.trans (hb2.mono B1.out.size))
  replace RA := hid (RA.out.below hb2)
  replace RB := hid (RB.out.below hb2)
  replace RC := hid (RC.out.below hb2)
  clear hb2
  go_wp2_with fail
  refine (C2.out _ _ RA.out).mono ?_
  rintro e w3 ⟨v3, rfl, hr3, hb3⟩
  have B3 := hid (B2.out.trans (hb3.mono B2.out.size))
  replace RA := hid (RA.out.below hb3)
  replace RB := hid (RB.out.below hb3)
  replace RC := hid (RC.out.below hb3)
  have R3 := hid hr3
  clear hr3
  clear hb3
  go_wp2_with fail
  refine (E2.out _ _ R3.out).mono ?_
  rintro e w4 ⟨rfl, hb4⟩
  have B4 := hid (B3.out.trans (hb4.mono B3.out.size))
  replace RA := hid (RA.out.below hb4)
  replace RB := hid (RB.out.below hb4)
  replace RC := hid (RC.out.below hb4)
  clear hb4
  go_wp2_with fail
  refine (C3.out _ _ RA.out).mono ?_
  rintro e w5 ⟨rfl, hb5⟩
  have B5 := hid (B4.out.trans (hb5.mono B4.out.size))
  replace RB := hid (RB.out.below hb5)
  replace RC := hid (RC.out.below hb5)
  clear hb5
  go_wp2_with fail
  refine (C4.out _ _ RB.out).mono ?_
  rintro e w6 ⟨v6, rfl, hr6, hb6⟩
  have B6 := hid (B5.out.trans (hb6.mono B5.out.size))
  replace RB := hid (RB.out.below hb6)
  replace RC := hid (RC.out.below hb6)
  have R6 := hid hr6
  clear hr6
  clear hb6
  go_wp2_with fail
  refine (E4.out _ _ R6.out).mono ?_
  rintro e w7 ⟨rfl, hb7⟩
  have B7 := hid (B6.out.trans (hb7.mono B6.out.size))
  replace RB := hid (RB.out.below hb7)
  replace RC := hid (RC.out.below hb7)
  clear hb7
  go_wp2_with fail
  refine (C5.out _ _ RB.out).mono ?_
  rintro e w8 ⟨rfl, hb8⟩
  have B8 := hid (B7.out.trans (hb8.mono B7.out.size))
  replace RC := hid (RC.out.below hb8)
  clear hb8
  go_wp2_with fail
  refine (C6.out _ _ RC.out).mono ?_
  rintro e w9 ⟨rfl, hb9⟩
  have B9 := hid (B8.out.trans (hb9.mono B8.out.size))
  replace RC := hid (RC.out.below hb9)
  clear hb9
  go_wp2_with fail
  refine (C7.out _ _ RC.out).mono ?_
  rintro e w10 ⟨v10, rfl, hr10, hb10⟩
  have B10 := hid (B9.out.trans (hb10.mono B9.out.size))
  have R10 := hid hr10
  clear hr10
  clear hb10
  go_wp2_with fail
  refine (E7.out _ _ R10.out).mono ?_
  rintro e w11 ⟨rfl, hb11⟩
  have B11 := hid (B10.out.trans (hb11.mono B10.out.size))
  clear hb11
  go_wp2_with fail
  go_ret
  exact ⟨rfl, B11.out⟩

end Go.Proofs.YtciamnkalmihcaaDoor
