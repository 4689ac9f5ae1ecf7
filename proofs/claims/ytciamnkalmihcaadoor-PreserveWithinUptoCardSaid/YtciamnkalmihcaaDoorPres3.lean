/- The walk of preserve's follow. -/
import Derived.Test.YtciamnkalmihcaaDoorPres2
import Derived.Test.YtciamnkalmihcaaDoorListD
import Derived.OneCell
namespace Go.Proofs.YtciamnkalmihcaaDoor
open Go.RowKit

theorem block_kept {w W : World} {b : Nat} {o : Obj} (hb : Below w.heap.size w W) (h : w.heap[b]? = some o) : W.heap[b]? = some o :=
  (hb.block b (lt_of_block h)).trans h
theorem block_one (w : World) (v : Value) (t : TypeId) : (w.alloc (.cells #[v] t)).heap[w.heap.size]? = some (.cells #[v] t (0, 0)) := heap_alloc_new w _

set_option maxHeartbeats 1600000 in
set_option maxRecDepth 100000 in
theorem follow_any (fs : List F) (ps : List S) (z0 : S) (v u : Value) (w : World) (hv : RdF w v fs) (hu : RdE enc w u ps) :
    Calls Tryd.prog 50 #[v, u, enc z0] w fun e w' => ∃ v', e = .returned (.tuple #[enc (followS fs ps z0).1, v']) ∧ RdE encI w' v' (followS fs ps z0).2 ∧ Below w.heap.size w w' := by
  obtain ⟨ao, cap, rfl, -⟩ := hv.split
  obtain ⟨bo, bcap, rfl, hpl, hpc⟩ := hu.split
  have PC := hid hpc
  have b1 := below_alloc w (.cells #[.slice ao fs.length cap] 27)
  have b2 := below_alloc (w.alloc (.cells #[.slice ao fs.length cap] 27)) (.cells #[.int .u32 (iv z0)] 25)
  have k1 := cell_kept b2 (cell_one w (.slice ao fs.length cap) 27)
  have k2 := block_one (w.alloc (.cells #[.slice ao fs.length cap] 27)) (.int .u32 (iv z0)) 25
  have z1 : (w.alloc (.cells #[.slice ao fs.length cap] 27)).heap.size = w.heap.size + 1 := by simp
  rw [z1] at k2
  have hb0 := b1.trans (b2.mono b1.size)
  have hz2 : ((w.alloc (.cells #[.slice ao fs.length cap] 27)).alloc (.cells #[.int .u32 (iv z0)] 25)).heap.size = w.heap.size + 2 := by simp
  obtain ⟨w0, hw0⟩ : ∃ w0 : World, (w.alloc (.cells #[.slice ao fs.length cap] 27)).alloc (.cells #[.int .u32 (iv z0)] 25) = w0 := ⟨_, rfl⟩
  rw [hw0] at k1 k2 hb0 hz2
  have IX := hid (fun (z : S) (W : World) (hW : Below w.heap.size w W) (h1 : W.cell? ⟨w.heap.size, 0, none⟩ = some (.slice ao fs.length cap)) (h2 : W.cell? ⟨w.heap.size + 1, 0, none⟩ = some (.int .u32 (iv z))) =>
    indexFuncS 63 #[.pointer (some ⟨w.heap.size, 0, none⟩), .pointer (some ⟨w.heap.size + 1, 0, none⟩)] (addsP fs z) ps _ W (hu.below hW)
      (enters _ _ _ Tryd.func63 (by kernel_rfl) rfl) (fun p W' hW' => follow1_any fs _ p z _ _ W' (hv.below (hW.trans (hW'.mono hW.size))) (cell_kept hW' h1) (cell_kept hW' h2)))
  have MO := hid (fun (p z : S) (W : World) (hW : Below w.heap.size w W) => more_any fs p z _ W (hv.below hW))
  have W0 := hid hw0
  clear hv hu hpc b1 b2 z1 hw0
  simp only [enc_eq] at MO ⊢
  go_enter Tryd.func50, Tryd.ntmps50
  go_wp2_with fail
  rw [W0.out]
  go_loopw [8] (fun o wr => ∃ (z : S) (l : List Nat), wr.heap[w.heap.size + 1]? = some (.cells #[.int .u32 (iv z)] 25 (0, 0)) ∧ wr.cell? ⟨w.heap.size, 0, none⟩ = some (.slice ao fs.length cap) ∧ wr.ownsRow (w.heap.size + 2) 3 1 o l.length (l.map encI) ∧ Below w.heap.size w wr ∧ w.heap.size + 2 ≤ wr.heap.size ∧ l.length ≤ z.toNat ∧ Hid (followS fs ps z0 = ((followS fs ps z).1, l ++ (followS fs ps z).2))) (fun _ wr => 4294967296 - (intOf ((wr.cell? ⟨w.heap.size + 1, 0, none⟩).getD undef)).toNat)
  case atStart => exact ⟨z0, [], k2, k1, World.ownsRow_nil _ _ _ _, hb0, by omega, Nat.zero_le _, hid rfl⟩
  case round =>
    obtain ⟨z, l, hz, hf, hown, hnx, hsz, hll, H⟩ := hrel
    have hc := cell_of_one hz
    have hzl := z.isLt
    have I := hid (IX.out z wr hnx hf hc)
    have HZ := hid hz
    have HF := hid hf
    have HO := hid hown
    have HN := hid hnx
    clear hf hown hnx hz
    go_wp2_with fail
    refine I.out.mono ?_
    rintro e w2 ⟨he, hb2⟩
    have Z2 := hid (block_kept hb2 HZ.out)
    have F2 := hid (cell_kept hb2 HF.out)
    have O2 := hid (own_below HO.out hb2)
    have N2 := hid (HN.out.trans (hb2.mono HN.out.size))
    have hs2 : w.heap.size + 2 ≤ w2.heap.size := Nat.le_trans hsz hb2.size
    clear hb2 HZ HF HO HN I
    rcases he with ⟨i, hi, rfl⟩ | ⟨hi, rfl⟩
    · obtain ⟨hil, hp, _⟩ := List.findIdx?_eq_some_iff_getElem.1 hi
      obtain ⟨p, hpi⟩ := get_some hil
      have FS := hid (followS_some hi hpi)
      have GR := hid (show z.toNat < (z ||| moreS fs p z).toNat by
        obtain ⟨_, rfl⟩ := List.getElem?_eq_some_iff.1 hpi
        exact adds_grows hp)
      obtain ⟨b, off, rfl, hpc⟩ := PC.out i p hpi
      have HP := hid (fun (W : World) (h : Below w.heap.size w W) => show W.cell? ⟨b, off + i, none⟩ = some (.int .u32 (iv p)) from hpc W h)
      have M := hid (fun (W : World) (h : Below w2.heap.size w2 W) => MO.out p z W (N2.out.trans (h.mono N2.out.size)))
      have hd : decide ((i : Int) < 0) = false := by simp
      have i0 : (0 : Int) ≤ (i : Int) := by omega
      have i1 : (i : Int) < (ps.length : Int) := by omega
      have c1 := cell_of_one Z2.out
      have hfz := free_of_one Z2.out
      have c2 := F2.out
      have c3 := HP.out w2 N2.out
      have HS := hid (fun (W : World) (h : Below w2.heap.size w2 W) => And.intro h (And.intro (cell_kept h c1) (And.intro (cell_kept h c2) (And.intro (cell_kept h c3) (free_of_one (block_kept h Z2.out))))))
      clear hpc hpi hp hi
      generalize moreS fs p z = m at *
      go_wp2_with fail
      go_region_law (first
        | (go_simp; go_at_call 64; refine (M.out _ (Below.refl _ _).drew).mono ?_; rintro e w3 ⟨rfl, hb3⟩; have hL : Below w2.heap.size w2 w3 := later (Below.refl _ _).drew hb3; obtain ⟨-, d1, d2, d3, d4⟩ := HS.out _ hL))
      all_goals
        have hn3 := N2.out.trans (hL.mono N2.out.size)
        have hs3 := Nat.le_trans hs2 hL.size
        have Z4 := hid (one_setCell (u := .int .u32 (iv (z ||| m))) (block_kept hL Z2.out))
        have O4 := hid (ownsRow_setCell_other (own_below O2.out hL) (a := ⟨w.heap.size + 1, 0, none⟩) (fun e => by have := (O2.out.lt _ e).1; simp at this) (.int .u32 (iv (z ||| m))))
        have N4 := hid (hn3.setCell (p := ⟨w.heap.size + 1, 0, none⟩) (by simp) (.int .u32 (iv (z ||| m))))
        have F4 : (w3.setCell ⟨w.heap.size + 1, 0, none⟩ (.int .u32 (iv (z ||| m)))).cell? ⟨w.heap.size, 0, none⟩ = some (.slice ao fs.length cap) := (World.cell?_setCell_far w3 ⟨w.heap.size + 1, 0, none⟩ ⟨w.heap.size, 0, none⟩ _ (by simp)).trans d2
        generalize w3.setCell ⟨w.heap.size + 1, 0, none⟩ (.int .u32 (iv (z ||| m))) = w4 at *
        have hs4 : w.heap.size + 2 ≤ w4.heap.size := by have := lt_of_block Z4.out; omega
        have F4' := hid F4
        clear d1 d2 d3 d4 hL hb3 F4 hn3 hs3
        go_wp2_with (at_builtin; refine wpList_push rfl _ _ 57 rfl (w.heap.size + 2) 3 (.int .i64 0) 8 undInts infoInt rfl (by decide) encI (fun _ => rfl) _ l rfl (O4.out.alloc _) ⟨w4.heap.size, 0, none⟩ i rfl cell_new (by first | omega | (simp; omega)) (by first | omega | (simp; omega)) ?_)
        intro v' w5 hown5 hgrow
        have hb5 : Below w.heap.size w w5 := below_push N4.out (by omega) (own_mono O4.out (by omega)) hgrow
        have hk : ∀ k : Nat, k < w.heap.size + 2 → w5.heap[k]? = w4.heap[k]? := fun k hk => (hgrow.block k (by first | omega | (simp; omega)) (fun e => by have := (O4.out.lt _ e.symm).1; omega)).trans ((below_alloc w4 _).block k (by omega))
        have Z5 := hid ((hk (w.heap.size + 1) (by omega)).trans Z4.out)
        have F5 := hid ((World.cell?_of_block (a := ⟨w.heap.size, 0, none⟩) (hk w.heap.size (by omega))).trans F4'.out)
        have hs5 := hgrow.size
        simp at hs5
        have O5 := hid hown5
        have B5 := hid hb5
        clear hgrow hown5 hb5 hk O4 Z4 F4' N4
        go_wp2_with fail
        go_roundw
        case rel => exact ⟨z ||| m, l ++ [i], Z5.out, F5.out, by simpa using O5.out, B5.out, by omega, by rw [List.length_append]; have := GR.out; simp only [List.length_singleton]; omega, hid (by rw [H.out, FS.out]; simp)⟩
        case measure => have e5 := cell_of_one Z5.out; have e2 := cell_of_one Z2.out; have g := GR.out; have l1 := (z ||| m).isLt; rw [e5, hc]; show 4294967296 - (((z ||| m).toNat : Int)).toNat < 4294967296 - ((z.toNat : Int)).toNat; simp only [Int.toNat_natCast]; omega
    · have FS := hid (followS_none hi)
      have c1 := cell_of_one Z2.out
      have hd : decide ((-1 : Int) < 0) = true := by decide
      have H2 := hid (H.out.trans (by rw [FS.out]))
      clear hi FS H
      go_wp2_with fail
      go_ret2
      rw [H2.out]
      exact ⟨_, rfl, by simpa using RdE.of_owns O2.out (by omega), N2.out⟩

end Go.Proofs.YtciamnkalmihcaaDoor
