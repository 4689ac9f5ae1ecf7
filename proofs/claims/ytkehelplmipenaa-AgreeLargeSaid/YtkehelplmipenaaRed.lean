/- The walk of transversal.Reduce. -/
import Derived.Test.YtkehelplmipenaaSortW
namespace Go.Proofs.Ytkehelplmipenaa
open Go.RowKit

set_option maxHeartbeats 400000 in
theorem reduce_any (xs : List S) (v : Value) (w : World) (hv : RdE enc w v xs) (h44 : xs.length < 17592186044416) :
    Calls Try.prog 48 #[v] w fun e w' => ∃ v', e = .returned v' ∧ w'.ownsRow w.heap.size 33 1 v' (redS xs).length ((redS xs).map enc) ∧ Below w.heap.size w w' := by
  have C1 := hid (clone_any xs v w hv h44)
  obtain ⟨ao, cap, rfl, -⟩ := hv
  go_enter Try.func48, Try.ntmps48
  go_wp2_with fail
  refine C1.out.mono ?_
  rintro e w1 ⟨v1, rfl, hown1, hb1⟩
  have C2 := hid (sort_any xs v1 w.heap.size w1 hown1 h44)
  have B1 := hid hb1
  clear hown1 hb1 C1
  go_wp2_with fail
  refine C2.out.mono ?_
  rintro e w2 ⟨rfl, hown2, hb2⟩
  have B2 := hid (B1.out.trans hb2)
  have hsl : (sortS xs).length = xs.length := (sortS_perm xs).length_eq
  have hrd := RdE.of_owns (f := enc) (xs := sortS xs) (by rw [hsl]; exact hown2) (by omega)
  clear hown2 hb2 C2 B1
  obtain ⟨bo, cbp, rfl, -, -, hc⟩ := hrd
  have hl44 : (sortS xs).length < 17592186044416 := by omega
  have HR := hid (show redS xs = redL (sortS xs) from rfl)
  generalize sortS xs = l at *
  clear hsl
  go_wp2_with fail
  go_loopw [4, 13] (fun u i wr => ∃ k : Nat, k ≤ l.length ∧ i = .int .i64 k ∧ wr.ownsRow w2.heap.size 33 1 u (redL (l.take k)).length ((redL (l.take k)).map enc) ∧ Below w2.heap.size w2 wr) (fun _ i _ => l.length - (intOf i).toNat)
  case atStart => exact ⟨0, Nat.zero_le _, rfl, World.ownsRow_nil _ _ _ _, Below.refl _ _⟩
  case round =>
    obtain ⟨k, hk, rfl, hown, hnx⟩ := hrel
    have hsz := hnx.size
    by_cases hlt : k < l.length
    · obtain ⟨b, off, rfl, hb, hcc⟩ := hc (by omega)
      obtain ⟨x, hx⟩ := get_some hlt
      have e0 : wr.cell? ⟨b, off + k, none⟩ = some (enc x) := (hnx.cell (p := ⟨b, off + k, none⟩) hb).trans (hcc k x hx)
      have hlen := redL_length (l.take k)
      rw [List.length_take] at hlen
      have NX := hid (redL_next hx)
      clear hx hcc hc
      have hrd := RdE.of_owns hown (by omega)
      have G := hid (containsFunc_any 69 #[.pointer (some ⟨wr.heap.size, 0, none⟩)] (fun f => f &&& x == f) (redL (l.take k)) u4 _ (hrd.below (below_alloc wr (.cells #[enc x] 33)))
        (enters _ _ _ Try.func69 (by kernel_rfl) rfl) (fun y => reduce1_any x _ y _ cell_new))
      generalize redL (l.take k) = out at *
      unfold enc at e0 G
      cases hq : out.any (fun f => f &&& x == f) with
      | true =>
        have st : redStep out x = out := by unfold redStep; rw [if_pos hq]
        have ST := hid st
        have HQ := hid hq
        clear st hq
        go_wp2_with fail
        refine G.out.mono ?_
        rw [HQ.out]
        rintro e w3 ⟨rfl, rfl⟩
        go_wp2_with fail
        go_roundw
        case rel => exact ⟨k + 1, by omega, by go_num, by rw [NX.out, ST.out]; exact hown.alloc _, hnx.alloc hsz _⟩
        case measure => simp [intOf]; omega
      | false =>
        have st : redStep out x = out ++ [x] := by unfold redStep; rw [if_neg (by rw [hq]; simp)]
        have ST := hid st
        have HQ := hid hq
        clear st hq
        go_wp2_with fail
        refine G.out.mono ?_
        rw [HQ.out]
        rintro e w3 ⟨rfl, rfl⟩
        go_wp2_with (at_builtin; refine wpList_push rfl _ _ 37 rfl w2.heap.size 33 (.int .u32 0) 4 undSets infoSet rfl (by decide) enc (fun _ => rfl) _ out rfl ((hown.alloc _).alloc _) ⟨wr.heap.size + 1, 0, none⟩ x rfl (by simp [enc]) (by omega) (by simp; omega) ?_)
        intro v' w4 hown' hgrow
        have hb4 := below_push (hnx.alloc hsz _) (by simp; omega) (hown.alloc _) hgrow
        have hown2 : w4.ownsRow w2.heap.size 33 1 v' (redStep out x).length ((redStep out x).map enc) := by rw [ST.out]; simpa using hown'
        clear hgrow hown hnx hown'
        go_wp2_with fail
        go_roundw
        case rel => exact ⟨k + 1, by omega, by go_num, by rw [NX.out]; exact hown2, hb4⟩
        case measure => simp [intOf]; omega
    · go_wp2_with fail
      go_ret
      rw [HR.out]
      rw [take_all hlt] at hown
      exact ⟨_, rfl, own_mono hown B2.out.size, B2.out.trans (hnx.mono B2.out.size)⟩

end Go.Proofs.Ytkehelplmipenaa
