/- The walks of drossref09.List and Of: a description of small numbers becomes a list of dependencies. -/
import Derived.Test.YtcfcmalaabmceaaGreatDoorOpen
import Derived.Test.YtcfcmalaabmceaaGreatDoorGWalk
import Derived.Test.YtcfcmalaabmceaaGreatDoorGFd
import Derived.StillTailTactics
import Derived.Deep.RegionHeld3
namespace Go.Proofs.YtcfcmalaabmceaaGreatDoor
open Go.RowKit

/-- A small number as a set. -/
abbrev wd (b : U8) : S := BitVec.setWidth 32 b
@[go_sem] theorem wrap_u8 (b : U8) : IntKind.u32.wrap (b.toNat : Int) = (b.toNat : Int) := by
  rw [IntKind.wrap_u32]; have := b.isLt; omega
/-- What List gives, within the set a. -/
def listF (a : S) (ds : List D8) : List F := ds.map fun d => (wd d.1 &&& a, wd d.2 &&& a)
theorem listF_next {a : S} {ds : List D8} {k : Nat} {d : D8} (h : ds[k]? = some d) : listF a (ds.take (k + 1)) = listF a (ds.take k) ++ [(wd d.1 &&& a, wd d.2 &&& a)] := by
  unfold listF; rw [take_next h, List.map_append]; rfl
theorem listF_length (a : S) (ds : List D8) : (listF a ds).length = ds.length := by unfold listF; simp
theorem flatD_at {xs : List D8} {i : Nat} {d : D8} (h : xs[i]? = some d) : (xs.flatMap cD)[i * 2]? = some (enc8 d.1) ∧ (xs.flatMap cD)[i * 2 + 1]? = some (enc8 d.2) :=
  ⟨flat_at cD_length xs i d 0 _ h rfl, flat_at cD_length xs i d 1 _ h rfl⟩
theorem RdD.split {w : World} {v : Value} {xs : List D8} (h : RdD w v xs) : ∃ ao cap, v = .slice ao xs.length cap ∧ xs.length ≤ 35184372088832 ∧
    ∀ (k : Nat) (d : D8), xs[k]? = some d → ∃ b off, ao = some ⟨b, off, none⟩ ∧ ∀ wr, Below w.heap.size w wr → wr.cell? ⟨b, off + k * 2, none⟩ = some (.int .u8 (d.1.toNat : Int)) ∧ wr.cell? ⟨b, off + k * 2 + 1, none⟩ = some (.int .u8 (d.2.toNat : Int)) := by
  obtain ⟨ao, cap, rfl, -, h2, h3⟩ := h
  refine ⟨ao, cap, rfl, h2, fun k f hf => ?_⟩
  obtain ⟨b, off, rfl, hb, hc⟩ := h3 (by have := (List.getElem?_eq_some_iff.1 hf).1; omega)
  exact ⟨b, off, rfl, fun wr hn => ⟨(hn.cell (p := ⟨b, off + k * 2, none⟩) hb).trans (hc _ _ (flatD_at hf).1), (hn.cell (p := ⟨b, off + k * 2 + 1, none⟩) hb).trans (hc _ _ (flatD_at hf).2)⟩⟩

set_option maxHeartbeats 800000 in
set_option maxRecDepth 100000 in
theorem list_any (n : Int) (ds : List D8) (v : Value) (w : World) (hv : RdD w v ds) (h40 : ds.length < 1099511627776) :
    Calls Tryz.prog 8 #[.int .i64 n, v] w fun e w' => ∃ v', e = .returned v' ∧ w'.ownsRow w.heap.size 49 2 v' (listF (fullN (min n.toNat 32)) ds).length ((listF (fullN (min n.toNat 32)) ds).flatMap cF) ∧ Below w.heap.size w w' := by
  have FU := hid (full_any n)
  obtain ⟨ao, cap, rfl, -, hc⟩ := hv.split
  have FC := hid hc
  clear hv hc
  generalize fullN (min n.toNat 32) = a at *
  simp only [enc_eq] at FU
  go_enter Tryz.func8, Tryz.ntmps8
  go_wp2_with fail
  refine (FU.out _).mono ?_
  rintro e w' ⟨rfl, rfl⟩
  go_wp2_with fail
  go_loopw [6, 7] (fun u i wr => ∃ k : Nat, k ≤ ds.length ∧ i = .int .i64 k ∧ wr.ownsRow w.heap.size 49 2 u (listF a (ds.take k)).length ((listF a (ds.take k)).flatMap cF) ∧ Below w.heap.size w wr) (fun _ i _ => ds.length - (intOf i).toNat)
  case atStart => exact ⟨0, Nat.zero_le _, rfl, World.ownsRow_nil _ _ _ _, Below.refl _ _⟩
  case round =>
    obtain ⟨k, hk, rfl, hown, hnx⟩ := hrel
    have hsz := hnx.size
    have hll : (listF a (ds.take k)).length ≤ k := by rw [listF_length]; simp; omega
    by_cases hlt : k < ds.length
    · obtain ⟨d, hd⟩ := get_some hlt
      obtain ⟨b, off, rfl, hfc⟩ := FC.out k d hd
      obtain ⟨e0, e1⟩ := hfc wr hnx
      have LN := hid (listF_next (a := a) hd)
      have HS := hid (fun (W : World) (h : Below w.heap.size w W) => And.intro h (hfc W h))
      clear hfc hd
      generalize listF a (ds.take k) = xs at *
      have i0 : (0 : Int) ≤ (k : Int) := by omega
      have i1 : (k : Int) < (ds.length : Int) := by omega
      have d0 : (d.1.toNat : Int) < 256 := by have := d.1.isLt; omega
      have d1 : (d.2.toNat : Int) < 256 := by have := d.2.isLt; omega
      go_wp2_with fail
      go_region_held3 (fun W => Below w.heap.size w W ∧ W.cell? ⟨b, off + k * 2, none⟩ = some (.int .u8 (d.1.toNat : Int)) ∧ W.cell? ⟨b, off + k * 2 + 1, none⟩ = some (.int .u8 (d.2.toNat : Int)))
        (first | exact HS.out _ hnx.drew | exact HS.out _ (hnx.alloc hsz _).drew | exact HS.out _ (by assumption))
        ((refine step_pushC (by rfl) _ _ 38 (by rfl) w.heap.size 49 (.agg #[.int .u32 0, .int .u32 0]) 2 8 undFDs infoFD rfl (by decide) (by decide) cF cF_length cF_one _ xs (by rfl) ((hown.alloc _).drew) ⟨wr.heap.size, 0, none⟩ (wd d.1 &&& a, wd d.2 &&& a) (by rfl) (cells_newFd _ _) (by omega) (by simp; omega) ?_; intro v' w1 hown' hgrow; have hb1 : Below w.heap.size w w1 := below_push hnx.drew hsz hown.drew hgrow))
      clear hgrow hown hnx e0 e1
      go_wp2_with fail
      go_roundw
      case rel => exact ⟨k + 1, by omega, by go_num, by rw [LN.out]; simpa using hown', hb1⟩
      case measure => simp [intOf]; omega
    · rw [take_all hlt] at hown
      go_wp2_with fail
      go_ret
      exact ⟨_, rfl, hown, hnx⟩

/-- What a region that holds calls keeps: a later world, with two cells as they were. -/
theorem held2 {w : World} {b o1 o2 : Nat} {x y : Value} (h1 : w.cell? ⟨b, o1, none⟩ = some x) (h2 : w.cell? ⟨b, o2, none⟩ = some y) (W : World) (h : Below w.heap.size w W) :
    Below w.heap.size w W ∧ W.cell? ⟨b, o1, none⟩ = some x ∧ W.cell? ⟨b, o2, none⟩ = some y :=
  ⟨h, (h.cell (p := ⟨b, o1, none⟩) (World.block_lt_of_cell? _ _ h1)).trans h1, (h.cell (p := ⟨b, o2, none⟩) (World.block_lt_of_cell? _ _ h2)).trans h2⟩
theorem later {w a b : World} (h : Below w.heap.size w a) (k : Below a.heap.size a b) : Below w.heap.size w b := h.trans (k.mono h.size)

set_option maxHeartbeats 800000 in
set_option maxRecDepth 100000 in
theorem of_any (n : U8) (u : Value) (ds : List D8) (w : World) (hu : RdD w u ds) (h40 : ds.length < 1099511627776) :
    Calls Tryz.prog 15 #[.agg #[enc8 n, u]] w fun e w' => ∃ v', e = .returned (.tuple #[.int .i64 (n.toNat % 7 : Nat), v', .bool (decide (ds.length ≤ 6))]) ∧ w'.ownsRow w.heap.size 49 2 v' (listF (fullN (n.toNat % 7)) ds).length ((listF (fullN (n.toNat % 7)) ds).flatMap cF) ∧ Below w.heap.size w w' := by
  have b0 := below_alloc w (.cells #[enc8 n, u] 27)
  have L := hid (fun (W : World) (hb : Below (w.alloc (.cells #[enc8 n, u] 27)).heap.size (w.alloc (.cells #[enc8 n, u] 27)) W) => list_any ((n.toNat : Int) % 7) ds u W ((hu.below b0).below hb) h40)
  rw [show min ((n.toNat : Int) % 7).toNat 32 = n.toNat % 7 by omega] at L
  have B0 := hid b0
  have c0 : (w.alloc (.cells #[enc8 n, u] 27)).cell? ⟨w.heap.size, 0, none⟩ = some (.int .u8 (n.toNat : Int)) := by simp [enc8]
  have c1 : (w.alloc (.cells #[enc8 n, u] 27)).cell? ⟨w.heap.size, 1, none⟩ = some u := by simp
  have HH := hid (held2 c0 c1)
  obtain ⟨ao, cap, rfl, -, -⟩ := hu.split
  clear hu b0
  have hm : (n.toNat : Int) < 256 := by have := n.isLt; omega
  have hn : ((n.toNat % 7 : Nat) : Int) = (n.toNat : Int) % 7 := by omega
  rw [hn]
  clear hn
  generalize listF (fullN (n.toNat % 7)) ds = xs at *
  unfold enc8 at *
  generalize n.toNat = m at *
  have hq : decide ((ds.length : Int) ≤ 6) = decide (ds.length ≤ 6) := by rw [decide_eq_decide]; omega
  rw [← hq]
  clear hq c0 c1
  go_enter Tryz.func15, Tryz.ntmps15
  obtain ⟨c0, c1⟩ := (HH.out _ (Below.refl _ _)).2
  go_wp2_with fail
  generalize hw0 : w.alloc (.cells #[.int .u8 (m : Int), .slice ao ds.length cap] 27) = w0 at *
  have W0 := hid hw0
  clear hw0
  go_region_held3 (fun W => Below w0.heap.size w0 W ∧ W.cell? ⟨w.heap.size, 0, none⟩ = some (.int .u8 (m : Int)) ∧ W.cell? ⟨w.heap.size, 1, none⟩ = some (.slice ao ds.length cap))
    (first | exact HH.out _ (Below.refl _ _).drew | exact HH.out _ (by assumption))
    (first
      | (go_at_call 8; have hS := And.left ‹Below w0.heap.size w0 _ ∧ _ ∧ _›; refine (L.out _ hS).mono ?_; rintro e w2 ⟨v2, rfl, ho2, hb2⟩; have hL := later hS hb2; have ho3 := own_mono ho2 (Nat.le_trans B0.out.size hS.size); clear hb2 hS ho2))
  have BB := hid (B0.out.trans (hL.mono B0.out.size))
  clear hL
  have OO := hid ho3
  clear ho3
  go_wp2_with fail
  go_ret3
  exact ⟨_, rfl, OO.out, BB.out⟩

end Go.Proofs.YtcfcmalaabmceaaGreatDoor
