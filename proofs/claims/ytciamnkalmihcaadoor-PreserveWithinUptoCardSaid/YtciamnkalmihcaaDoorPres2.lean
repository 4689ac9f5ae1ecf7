/- The walks of preserve's minimal and follow. -/
import Derived.Test.YtciamnkalmihcaaDoorPres1
import Derived.Test.YtciamnkalmihcaaDoorGWalk
namespace Go.Proofs.YtciamnkalmihcaaDoor
open Go.RowKit

theorem not_any {α : Type} (l : List α) (p : α → Bool) : (!l.any p) = l.all fun x => !p x := by
  induction l with
  | nil => rfl
  | cons x l ih => rw [List.any_cons, List.all_cons, ← ih]; cases p x <;> simp

theorem cell_kept {w W : World} {b o : Nat} {v : Value} (hb : Below w.heap.size w W) (h : w.cell? ⟨b, o, none⟩ = some v) : W.cell? ⟨b, o, none⟩ = some v :=
  (hb.cell (p := ⟨b, o, none⟩) (World.block_lt_of_cell? _ _ h)).trans h
theorem cell_one (w : World) (v : Value) (t : TypeId) : (w.alloc (.cells #[v] t)).cell? ⟨w.heap.size, 0, none⟩ = some v := by simp
theorem boxes3 (w : World) (a b c : Value) (t u s : TypeId) : Below w.heap.size w (((w.alloc (.cells #[a] t)).alloc (.cells #[b] u)).alloc (.cells #[c] s)) ∧
    (((w.alloc (.cells #[a] t)).alloc (.cells #[b] u)).alloc (.cells #[c] s)).cell? ⟨w.heap.size, 0, none⟩ = some a ∧ (((w.alloc (.cells #[a] t)).alloc (.cells #[b] u)).alloc (.cells #[c] s)).cell? ⟨w.heap.size + 1, 0, none⟩ = some b ∧
    (((w.alloc (.cells #[a] t)).alloc (.cells #[b] u)).alloc (.cells #[c] s)).cell? ⟨w.heap.size + 2, 0, none⟩ = some c := by
  have h1 := below_alloc w (.cells #[a] t)
  have h2 := below_alloc (w.alloc (.cells #[a] t)) (.cells #[b] u)
  have h3 := below_alloc ((w.alloc (.cells #[a] t)).alloc (.cells #[b] u)) (.cells #[c] s)
  have h23 := h2.trans (h3.mono h2.size)
  have z1 : (w.alloc (.cells #[a] t)).heap.size = w.heap.size + 1 := by simp
  have z2 : ((w.alloc (.cells #[a] t)).alloc (.cells #[b] u)).heap.size = w.heap.size + 2 := by simp
  have k1 := cell_one w a t
  have k2 := cell_one (w.alloc (.cells #[a] t)) b u
  have k3 := cell_one ((w.alloc (.cells #[a] t)).alloc (.cells #[b] u)) c s
  have j1 := cell_kept h23 k1
  have j2 := cell_kept h3 k2
  rw [z1] at j2
  rw [z2] at k3
  exact ⟨h1.trans (h23.mono h1.size), j1, j2, k3⟩

set_option maxRecDepth 100000 in
theorem minimalP_any (fs : List F) (x : S) (a : Nat) (ha : a < 32) (v : Value) (w : World) (hT : Tab w) (hv : RdF w v fs) :
    Calls Tryd.prog 41 #[v, enc x, .int .i64 (a : Int)] w fun e w' => e = .returned (.bool (minB fs x a)) ∧ Below w.heap.size w w' := by
  have E := hid (show minB fs x a = !(memN x 32).any fun b => impS fs (x &&& ~~~ (1#32 <<< b), 1#32 <<< a) by rw [not_any]; rfl)
  rw [E.out]
  clear E
  obtain ⟨ao, cap, rfl, -⟩ := hv.split
  obtain ⟨w0, hw0⟩ : ∃ w0 : World, ((w.alloc (.cells #[.slice ao fs.length cap] 27)).alloc (.cells #[.int .u32 (iv x)] 25)).alloc (.cells #[.int .i64 (a : Int)] 3) = w0 := ⟨_, rfl⟩
  obtain ⟨hb0, c1, c2, c3⟩ := boxes3 w (.slice ao fs.length cap) (.int .u32 (iv x)) (.int .i64 (a : Int)) 27 25 3
  rw [hw0] at hb0 c1 c2 c3
  have B0 := hid hb0
  have ME := hid (amembers_any x w0 (hT.below hb0))
  have ML := memN_length x 32
  have CF := hid (fun (u : Value) (W : World) (hW : Below w0.heap.size w0 W) (hu : RdE encI W u (memN x 32)) =>
    containsFuncI 57 #[.pointer (some ⟨w.heap.size, 0, none⟩), .pointer (some ⟨w.heap.size + 1, 0, none⟩), .pointer (some ⟨w.heap.size + 2, 0, none⟩)] (fun b => impS fs (x &&& ~~~ (1#32 <<< b), 1#32 <<< a)) (memN x 32) u W hu
      (enters _ _ _ Tryd.func57 (by kernel_rfl) rfl) (fun b W' hm hW' => minimal1_any fs _ x a ha b (mem_memN.1 hm).1 _ _ _ W' (hv.below (hb0.trans ((hW.trans (hW'.mono hW.size)).mono hb0.size)))
        (((hW.trans (hW'.mono hW.size)).cell (World.block_lt_of_cell? _ _ c1)).trans c1) (((hW.trans (hW'.mono hW.size)).cell (World.block_lt_of_cell? _ _ c2)).trans c2) (((hW.trans (hW'.mono hW.size)).cell (World.block_lt_of_cell? _ _ c3)).trans c3)))
  have W0 := hid hw0
  have C2 := hid c2
  clear hv hb0 c1 c3 c2 hw0
  generalize (memN x 32).any (fun b => impS fs (x &&& ~~~ (1#32 <<< b), 1#32 <<< a)) = r at *
  generalize memN x 32 = ms at *
  simp only [enc_eq] at ME ⊢
  go_enter Tryd.func41, Tryd.ntmps41
  go_wp2_with fail
  rw [W0.out]
  refine ME.out.mono ?_
  rintro e w1 ⟨v1, rfl, ho1, hb1⟩
  have R1 := hid (RdE.of_owns ho1 (by omega))
  have H1 := hid hb1
  have B1 := hid (B0.out.trans (hb1.mono B0.out.size))
  clear ho1 hb1
  go_wp2_with fail
  refine (CF.out _ _ H1.out R1.out).mono ?_
  rintro e w2 ⟨rfl, hb2⟩
  have B2 := hid (B1.out.trans (hb2.mono B1.out.size))
  clear hb2
  go_wp2_with fail
  go_ret
  exact ⟨rfl, B2.out⟩

theorem follow1_any (fs : List F) (v : Value) (p z : S) (p1 p2 : Nat) (w : World) (hv : RdF w v fs)
    (h1 : w.cell? ⟨p1, 0, none⟩ = some v) (h2 : w.cell? ⟨p2, 0, none⟩ = some (.int .u32 (iv z))) :
    Calls Tryd.prog 63 (#[enc p] ++ #[.pointer (some ⟨p1, 0, none⟩), .pointer (some ⟨p2, 0, none⟩)]) w fun e w' => e = .returned (.bool (addsP fs z p)) ∧ Below w.heap.size w w' := by
  show Calls Tryd.prog 63 #[enc p, .pointer (some ⟨p1, 0, none⟩), .pointer (some ⟨p2, 0, none⟩)] w _
  have C := hid (more_any fs p z v w hv)
  have E := hid (show addsP fs z p = (moreS fs p z != 0#32) from rfl)
  rw [E.out]
  obtain ⟨ao, cap, rfl, -⟩ := hv.split
  clear hv E
  generalize moreS fs p z = m at *
  simp only [enc_eq] at C ⊢
  go_enter Tryd.func63, Tryd.ntmps63
  go_wp2_with fail
  refine C.out.mono ?_
  rintro e w1 ⟨rfl, hb⟩
  have B := hid hb
  clear hb
  go_wp2_with fail
  go_ret
  exact ⟨rfl, B.out⟩

end Go.Proofs.YtciamnkalmihcaaDoor
