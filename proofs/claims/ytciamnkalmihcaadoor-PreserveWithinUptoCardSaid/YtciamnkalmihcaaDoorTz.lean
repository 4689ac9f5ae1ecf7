/- The walks of bits.TrailingZeros32 and attrset.Members, over the table that they read. -/
import Derived.Test.YtciamnkalmihcaaDoorGWalk
import Derived.Test.YtciamnkalmihcaaDoorCells
namespace Go.Proofs.YtciamnkalmihcaaDoor
open Go.RowKit

/-- The table of the library, and a world that holds it. -/
def tabL : List Nat := [0, 1, 28, 2, 29, 14, 24, 3, 30, 22, 20, 15, 25, 17, 4, 8, 31, 27, 13, 23, 21, 19, 16, 7, 26, 12, 18, 6, 11, 5, 10, 9]
def Tab (w : World) : Prop := 0 < w.heap.size ∧ ∀ i n : Nat, tabL[i]? = some n → w.cell? ⟨0, i, none⟩ = some (.int .u8 (n : Int))
theorem Tab.below {w w' : World} (h : Tab w) (hb : Below w.heap.size w w') : Tab w' :=
  ⟨Nat.lt_of_lt_of_le h.1 hb.size, fun i n hi => (hb.cell (p := ⟨0, i, none⟩) h.1).trans (h.2 i n hi)⟩
def tzx (s : S) : S := ((s &&& -s) * 125613361#32) >>> 27
theorem tab_low : ∀ i : Fin 32, tabL[((bit i.val * 125613361#32) >>> 27).toNat]? = some i.val := by decide +kernel
theorem tab_less : ∀ i : Fin 32, ((bit i.val * 125613361#32) >>> 27).toNat < 32 := by decide +kernel
theorem tzx_spec {s : S} {i : Nat} (hi : i < 32) (hb : s &&& -s = bit i) : ∃ k : Nat, k < 32 ∧ iv (tzx s) = (k : Int) ∧ tabL[k]? = some i := by
  refine ⟨(tzx s).toNat, ?_, rfl, ?_⟩
  · unfold tzx; rw [hb]; exact tab_less ⟨i, hi⟩
  · unfold tzx; rw [hb]; exact tab_low ⟨i, hi⟩

@[go_sem] theorem iv_mulc (a : S) : IntKind.u32.wrap (iv a * 125613361) = iv (a * 125613361#32) := by
  rw [IntKind.wrap_u32]; unfold iv
  rw [BitVec.toNat_mul]; simp
@[go_sem] theorem iv_div27 (s : S) : iv s / (134217728 : Int) = iv (s >>> 27) := iv_shr s 27

/-- TrailingZeros32. -/
theorem tz_any (s : S) (w : World) (hT : Tab w) (i : Nat) (hi : i < 32) (h0 : s ≠ 0#32) (hb : s &&& -s = bit i) :
    Calls Tryd.prog 55 #[enc s] w fun e w' => e = .returned (.int .i64 i) ∧ w = w' := by
  obtain ⟨k, hk, hx, ht⟩ := tzx_spec hi hb
  have hc := hT.2 _ _ ht
  have hz : (s == 0#32) = false := by simpa using h0
  have hx' : iv (((s &&& -s) * 125613361#32) >>> 27) = (k : Int) := hx
  clear hx ht hT hb h0
  simp only [enc_eq]
  go_enter Tryd.func55, Tryd.ntmps55
  go_wp2_with fail
  go_ret
  exact ⟨rfl, rfl⟩

/-- Members. -/
theorem amembers_any (s : S) (w : World) (hT : Tab w) :
    Calls Tryd.prog 39 #[enc s] w fun e w' => ∃ v, e = .returned v ∧ w'.ownsRow w.heap.size 3 1 v (memN s 32).length ((memN s 32).map encI) ∧ Below w.heap.size w w' := by
  have C := hid (fun (r : S) (W : World) (hb : Below w.heap.size w W) => tz_any r W (hT.below hb))
  have ML := memN_length s 32
  simp only [enc_eq] at C ⊢
  clear hT
  go_enter Tryd.func39, Tryd.ntmps39
  go_wp2_with fail
  go_loopw [0, 3] (fun u o wr => ∃ (r : S) (out : List Nat), u = .int .u32 (iv r) ∧ wr.ownsRow w.heap.size 3 1 o out.length (out.map encI) ∧ Hid (out ++ memN r 32 = memN s 32) ∧ Below w.heap.size w wr) (fun u _ _ => (intOf u).toNat)
  case atStart => exact ⟨s, [], rfl, World.ownsRow_nil _ _ _ _, hid rfl, Below.refl _ _⟩
  case round =>
    obtain ⟨r, out, rfl, hown, M, hnx⟩ := hrel
    have hsz := hnx.size
    have hol : out.length ≤ 32 := by have := congrArg List.length M.out; simp at this; omega
    cases hr : (r != 0#32) with
    | true =>
      have h0 : r ≠ 0#32 := by simpa using hr
      obtain ⟨i, hi, h1, h2, h3, h4⟩ := low_bit h0
      have T := hid (C.out r wr hnx i hi h0 h3)
      have hdl := drop_low_lt h0
      have M2 := hid (show (out ++ [i]) ++ memN (r &&& (r - 1#32)) 32 = memN s 32 by
        rw [← M.out, memN_low hi h1 h2, h4]; simp)
      have hrl := r.isLt
      clear h1 h2 h3 h4 h0 M
      go_wp2_with fail
      refine (T.out).mono ?_
      rintro e w' ⟨rfl, rfl⟩
      go_wp2_with (at_builtin; refine wpList_push rfl _ _ 57 rfl w.heap.size 3 (.int .i64 0) 8 undInts infoInt rfl (by decide) encI (fun _ => rfl) _ out rfl (hown.alloc _) ⟨wr.heap.size, 0, none⟩ i rfl cell_new (by omega) (by simp; omega) ?_)
      intro v' w1 hown' hgrow
      have hb1 := below_push hnx hsz hown hgrow
      clear hgrow hown hnx
      go_wp2_with fail
      go_roundw
      case rel => exact ⟨r &&& (r - 1#32), out ++ [i], rfl, by simpa using hown', M2, hb1⟩
      case measure => simp only [intOf, iv]; omega
    | false =>
      have h0 : r = 0#32 := by simpa using hr
      have M2 := hid (show out = memN s 32 by rw [← M.out, h0, memN_zero, List.append_nil])
      go_wp2_with fail
      go_ret
      rw [← M2.out]
      exact ⟨_, rfl, hown, hnx⟩

end Go.Proofs.YtciamnkalmihcaaDoor
