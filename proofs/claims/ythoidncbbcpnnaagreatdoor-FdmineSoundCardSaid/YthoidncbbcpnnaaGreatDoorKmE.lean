/- The walks of drossref01.List and of the example of chapter 29. -/
import Derived.Test.YthoidncbbcpnnaaGreatDoorGTab30
namespace Go.Proofs.YthoidncbbcpnnaaGreatDoor
open Go.RowKit
set_option linter.unusedVariables false

def vC (c : U8) : V3 := codeV (c.toNat % 12)
set_option maxHeartbeats 1600000 in
theorem rlist_any (cs : List U8) (v : Value) (w : World) (hv : RdE enc8 w v cs) (hl : cs.length ≤ 1000) :
    Calls Tryz.prog 63 #[v] w fun e w' => ∃ v', e = .returned v' ∧ w'.ownsRow w.heap.size 117 3 v' (cs.map vC).length ((cs.map vC).flatMap cV) ∧ Below w.heap.size w w' := by
  obtain ⟨ao, cap, rfl, -, hc⟩ := hv.split
  have HC := hid hc
  have CO := hid (fun (c : U8) (W : World) => show Calls Tryz.prog 92 #[.int .u8 (c.toNat : Int)] W fun e w' => e = .returned (.agg #[.int .i64 (vC c).1, .int .i64 (vC c).2.1, .string (vC c).2.2]) ∧ Below W.heap.size W w' from code_any c W)
  unfold enc8 at HC
  clear hc hv
  go_enter Tryz.func63, Tryz.ntmps63
  go_wp2_with fail
  go_loopw [3, 4] (fun u i wr => ∃ k : Nat, k ≤ cs.length ∧ i = .int .i64 k ∧ wr.ownsRow w.heap.size 117 3 u ((cs.take k).map vC).length (((cs.take k).map vC).flatMap cV) ∧ Below w.heap.size w wr) (fun _ i _ => cs.length - (intOf i).toNat)
  case atStart => exact ⟨0, Nat.zero_le _, rfl, World.ownsRow_nil _ _ _ _, Below.refl _ _⟩
  case round =>
    obtain ⟨k, hk, rfl, hown, hnx⟩ := hrel
    have hsz := hnx.size
    have k0 : (0 : Int) ≤ (k : Int) := by omega
    by_cases hlt : k < cs.length
    · obtain ⟨c, hx⟩ := get_some hlt
      obtain ⟨b, off, rfl, hd⟩ := HC.out k c hx
      have e0 := hd wr hnx
      have TN := hid (show (cs.take (k + 1)).map vC = (cs.take k).map vC ++ [vC c] by rw [take_next hx, List.map_append]; rfl)
      have HOL := hid (show ((cs.take k).map vC).length ≤ 1000 by rw [List.length_map]; have := List.length_take_le k cs; omega)
      have C1 := hid (CO.out c wr)
      have HLT := hid hlt
      have HO := hid hown
      have NX := hid hnx
      generalize (cs.take k).map vC = out at *
      generalize vC c = x at *
      clear hd hx hown hnx
      go_wp2_with fail
      refine C1.out.mono ?_
      rintro e w2 ⟨rfl, hb2⟩
      have HO2 := hid (own_below HO.out hb2)
      have NX2 := hid (NX.out.trans (hb2.mono hsz))
      have hsz2 := NX2.out.size
      clear hb2
      go_wp2_with (at_builtin; refine wpList_pushC rfl _ _ 88 rfl w.heap.size 117 (.agg #[.int .i64 0, .int .i64 0, .string (ByteArray.mk #[])]) 3 32 undVs infoV rfl (by decide) (by decide) cV cV_length cV_one _ out rfl (HO2.out.alloc _) ⟨w2.heap.size, 0, none⟩ x rfl (cells_newV _ x) (by have := HOL.out; omega) (by simp; omega) ?_)
      intro v' w4 hown' hgrow
      have hb4 := hid (below_push NX2.out hsz2 HO2.out hgrow)
      have OW := hid (show w4.ownsRow w.heap.size 117 3 v' ((cs.take (k + 1)).map vC).length (((cs.take (k + 1)).map vC).flatMap cV) by rw [TN.out]; simpa using hown')
      clear hown' hgrow
      go_wp2_with fail
      go_roundw
      case rel => exact ⟨k + 1, by have := HLT.out; omega, by go_num, OW.out, hb4.out⟩
      case measure => have := HLT.out; simp [intOf]; omega
    · rw [List.take_of_length_le (by omega)] at hown
      have OF := hid hown
      have NX := hid hnx
      clear hown hnx
      go_wp2_with fail
      go_ret
      exact ⟨_, rfl, OF.out, NX.out⟩

/-! The example. -/

/-- All that lay in a below M lies in w, but block x. -/
structure KeptX (M x : Nat) (a w : World) : Prop where
  below : Below x a w
  rest : ∀ k, x < k → k < M → w.heap[k]? = a.heap[k]?
theorem KeptX.refl (M x : Nat) (a : World) : KeptX M x a a := ⟨Below.refl _ _, fun _ _ _ => rfl⟩
theorem KeptX.later {M x : Nat} {a w w' : World} (h : KeptX M x a w) (hb : Below w.heap.size w w') (hM : M ≤ w.heap.size) (hx : x ≤ w.heap.size) : KeptX M x a w' :=
  ⟨h.below.trans (hb.mono hx), fun k h1 h2 => (hb.block k (by omega)).trans (h.rest k h1 h2)⟩
theorem KeptX.grown {M x : Nat} {a w w' : World} {row : Option Nat} (h : KeptX M x a w) (hg : w.grownBy w' row) (hM : M ≤ w.heap.size) (hx : x ≤ M) (hr : ∀ j, row = some j → M ≤ j) : KeptX M x a w' :=
  ⟨h.below.grown hg (by omega) (fun j hj => by have := hr j hj; omega), fun k h1 h2 => (hg.block k (by omega) (fun e => by have := hr k e.symm; omega)).trans (h.rest k h1 h2)⟩
theorem KeptX.set {M x o : Nat} {a w : World} (h : KeptX M x a w) (v : Value) : KeptX M x a (w.setCell ⟨x, o, none⟩ v) :=
  ⟨h.below.setCell (p := ⟨x, o, none⟩) (Nat.le_refl _) v, fun k h1 h2 => by
    refine Eq.trans ?_ (h.rest k h1 h2)
    unfold World.setCell
    simp only
    rw [Array.getElem?_modify, if_neg (by omega)]⟩
theorem KeptX.cell {M x : Nat} {a w : World} (h : KeptX M x a w) {b o : Nat} (h1 : x < b) (h2 : b < M) : w.cell? ⟨b, o, none⟩ = a.cell? ⟨b, o, none⟩ := World.cell?_of_block (w := a) (h.rest b h1 h2)
theorem KeptX.rd {M x : Nat} {a w : World} (h : KeptX M x a w) {α : Type} {f : α → Value} {b off n cap : Nat} {xs : List α} (hr : RdE f a (.slice (some ⟨b, off, none⟩) n cap) xs) (h1 : x < b) (h2 : b < M) (hM : M ≤ w.heap.size) : RdE f w (.slice (some ⟨b, off, none⟩) n cap) xs := by
  obtain ⟨ao, cap', e, h3, h4, h5⟩ := hr
  refine ⟨ao, cap', e, h3, h4, fun hp => ?_⟩
  obtain ⟨b', off', e2, hlt, hc⟩ := h5 hp
  subst e2
  cases e
  exact ⟨b, off, rfl, by omega, fun j u hu => (h.cell h1 h2).trans (hc j u hu)⟩


end Go.Proofs.YthoidncbbcpnnaaGreatDoor
