/- Texts that belong together, in one file. -/
import Derived.Test.YtalejolehccclaaGreatDoorGWalk
import Derived.Test.YtalejolehccclaaGreatDoorGSort
import Derived.Test.YtalejolehccclaaGreatDoorGPlain
import Derived.Test.YtalejolehccclaaGreatDoorGOrd
/- The walks of the two Minimal. -/
namespace Go.Proofs.YtalejolehccclaaGreatDoor
open Go.RowKit

end Go.Proofs.YtalejolehccclaaGreatDoor

/- The walk of transversal.All: edge by edge. -/
namespace Go.Proofs.YtalejolehccclaaGreatDoor
open Go.RowKit

theorem valid_bits {n : Int} {xs : List S} (h : validS n xs = 0) : 0 <= n /\ n <= 16 /\ xs.length <= 200 /\ ∀ x ∈ xs, ∀ i, i < 32 -> n.toNat <= i -> x.getLsbD i = false := by
 unfold validS at h
 split at h
 ·cases h
 ·rename_i h1
  split at h
  ·cases h
  ·rename_i h2
   split at h
   ·cases h
   ·rename_i h3
    refine ⟨by omega, by omega, by omega, fun x hx i hi hn => ?_⟩
    have h3 : (xs.any fun x => x >>> n.toNat != 0#32) = false := by simpa using h3
    rw [List.any_eq_false] at h3
    have h4 := h3 x hx
    have h4 : x >>> n.toNat = 0#32 := by simpa using h4
    have := congrArg (fun x : S => x.getLsbD (i - n.toNat)) h4
    simp only [BitVec.getLsbD_ushiftRight, BitVec.getLsbD_zero] at this
    rwa [show n.toNat + (i - n.toNat) = i by omega] at this

theorem allL_bound {n : Nat} {xs : List S} (hn : n <= 16) (hx : ∀ x ∈ xs, ∀ i, i < 32 -> n <= i -> x.getLsbD i = false) (k : Nat) (hk : k <= (redS xs).length) : (allL ((redS xs).take k)).length <= 65536 := by
 have ho := allL_ord (redS xs) k hk
 have h := ord_bound (n := 2 ^ n) ho.1 (fun s hs => lt_of_bits (min_within ((ho.2 s).1 hs) (fun x hxm => hx x (((redS_ord xs).2 x).1 (List.mem_of_mem_take hxm)).1)))
 exact Nat.le_trans h (Nat.pow_le_pow_right (by omega) hn)

set_option maxHeartbeats 1000000 in
theorem all_any (n : Int) (xs : List S) (v : Value) (w : World) (hv : RdE enc w v xs) (hval : validS n xs = 0) :
  Calls Tryz.prog 24 #[.int .i64 n, v] w fun e w' => ∃ v', e = .returned (.tuple #[v', .int .i64 0]) /\ w'.ownsRow w.heap.size 58 1 v' (allS xs).length ((allS xs).map enc) /\ (allS xs).length <= 65536 /\ Below w.heap.size w w' := by
 obtain ⟨hn0, hn16, h200, hbits⟩ := valid_bits hval
 have bd := hid (allL_bound (n := n.toNat) (by omega) hbits)
 have C1 := hid (valid_any n xs v w hv)
 have C2 := hid (fun (w' : World) (hb : Below w.heap.size w w') => reduce_any xs v w' (hv.below hb) (by omega))
 have hrl := redS_length xs
 have HV := hid hval
 clear hval hbits hv
 go_enter Tryz.func24, Tryz.ntmps24
 go_wp2_with fail
 refine C1.out.mono ?_
 rw [HV.out]
 rintro e w1 ⟨rfl, hb1⟩
 have B1 := hid hb1
 clear hb1 C1
 go_wp2_with fail
 refine (C2.out _ (B1.out.trans ((below_alloc _ _).mono B1.out.size))).mono ?_
 rintro e w2 ⟨v2, rfl, hown2, hb2⟩
 have hl2 : w2.ownsRow w.heap.size 58 1 (.slice (some ⟨w1.heap.size, 0, none⟩) 1 1) (allL ((redS xs).take 0)).length ((allL ((redS xs).take 0)).map enc) :=
  own_below (World.ownsRow_lit (size := 1) w1 #[enc 0#32] 1 B1.out.size (by unfold maxLen; omega) rfl) hb2
 have HR := hid (show allS xs = allL (redS xs) from rfl)
 have hrd := RdE.of_owns hown2 (by omega)
 have B2 := hid (B1.out.trans (((below_alloc _ _).mono B1.out.size).trans (hb2.mono (Nat.le_trans B1.out.size (by simp)))))
 clear hown2 hb2 C2 B1
 generalize redS xs = E at *
 have h200 : E.length <= 200 := by omega
 clear hrl
 obtain ⟨eo, ecap, rfl, -, -, he3⟩ := hrd
 have B2s := B2.out.size
 go_wp2_with fail
 go_loopw [7, 24] (fun u i wr => ∃ k : Nat, k <= E.length /\ i = .int .i64 k /\ wr.ownsRow w.heap.size 58 1 u (allL (E.take k)).length ((allL (E.take k)).map enc) /\ Below w2.heap.size w2 wr) (fun _ i _ => E.length - (intOf i).toNat)
 case atStart => exact ⟨0, Nat.zero_le _, rfl, hl2, Below.refl _ _⟩
 case round =>
  obtain ⟨wo, rfl⟩ : ∃ wo : World, wo = wr := ⟨_, rfl⟩
  obtain ⟨k, hk, rfl, hown, hnx⟩ := hrel
  have hsz := hnx.size
  by_cases hlt : k < E.length
  ·obtain ⟨b, off, rfl, hb, hcc⟩ := he3 (by omega)
   obtain ⟨x, hx⟩ := get_some hlt
   have e0 : wo.cell? ⟨b, off + k, none⟩ = some (enc x) := (hnx.cell (p := ⟨b, off + k, none⟩) hb).trans (hcc k x hx)
   have NX := hid (allL_take hx)
   have hL := bd.out k hk
   clear hx hcc he3 hl2
   generalize allL (E.take k) = L at *
   have hrl := RdE.of_owns hown (by omega)
   have hnl := nextS_length (e := x) L
   have pre := fun m (hm : m <= L.length) => nextS_length (e := x) (L.take m)
   have hpre : ∀ m, (L.take m).length <= 65536 := fun m => Nat.le_trans (by rw [List.length_take]; exact Nat.min_le_right _ _) hL
   have PRE := hid (fun m (hm : m <= L.length) => Nat.le_trans (pre m hm) (Nat.mul_le_mul_left 32 (hpre m)))
   clear pre hpre
   obtain ⟨lo, lcap, rfl, -, -, hl3⟩ := hrl
   have HO := hid hown
   have HN := hid hnx
   clear hown hnx
   unfold enc at e0
   go_wp2_with fail
   go_loopw [10, 30] (fun u i wm => ∃ m : Nat, m <= L.length /\ i = .int .i64 m /\ wm.ownsRow wo.heap.size 58 1 u (nextS x (L.take m)).length ((nextS x (L.take m)).map enc) /\ Below wo.heap.size wo wm) (fun _ i _ => L.length - (intOf i).toNat)
   case atStart => exact ⟨0, Nat.zero_le _, rfl, World.ownsRow_nil _ _ _ _, Below.refl _ _⟩
   case round =>
    obtain ⟨wm, rfl⟩ : ∃ wm : World, wm = wr := ⟨_, rfl⟩
    obtain ⟨m, hm, rfl, hownm, hnm⟩ := hrel
    have hszm := hnm.size
    by_cases hltm : m < L.length
    ·obtain ⟨bl, offl, rfl, hbl, hcl⟩ := hl3 (by omega)
     obtain ⟨s, hs⟩ := get_some hltm
     have e1 : wm.cell? ⟨bl, offl + m, none⟩ = some (enc s) := (hnm.cell (p := ⟨bl, offl + m, none⟩) hbl).trans (hcl m s hs)
     have NS := hid (nextS_take (e := x) hs)
     have P1 := PRE.out m hm
     have P2 := PRE.out (m + 1) hltm
     clear hs hcl hl3
     unfold enc at e1
     by_cases h0 : s &&& x = 0#32
     ·have hne : (s &&& x != 0#32) = false := by simp [h0]
      have hex : extS x s = (memN x 32).map (fun i => s ||| bit i) := by unfold extS; rw [if_neg (by rw [hne]; simp)]
      rw [NS.out, hex, List.length_append] at P2
      have EX := hid hex
      clear h0 hex
      generalize nextS x (L.take m) = base at *
      go_wp2_with fail
      go_loopw [10, 13] (fun u q wi => ∃ (r : S) (out : List S), q = .int .u32 (iv r) /\ wi.ownsRow wo.heap.size 58 1 u out.length (out.map enc) /\ Hid (out ++ (memN r 32).map (fun i => s ||| bit i) = base ++ (memN x 32).map (fun i => s ||| bit i)) /\ Below wo.heap.size wo wi) (fun _ q _ => (intOf q).toNat)
      case atStart => exact ⟨x, base, rfl, hownm, hid rfl, hnm⟩
      case round =>
       obtain ⟨wi, rfl⟩ : ∃ wi : World, wi = wr := ⟨_, rfl⟩
       obtain ⟨r, out, rfl, howni, HQ, hni⟩ := hrel
       have hszi := hni.size
       have hol : out.length <= base.length + ((memN x 32).map (fun i => s ||| bit i)).length := by
        have := congrArg List.length HQ.out
        rw [List.length_append, List.length_append] at this; omega
       by_cases hr0 : r = 0#32
       ·subst hr0
        have HQ2 : Hid (out = base ++ extS x s) := by
         have := HQ.out
         rw [memN_zero] at this
         rw [EX.out]
         exact hid (by simpa using this)
        have z0 : ((0#32 : S) != 0#32) = false := by decide
        clear HQ
        go_wp2_with fail
        go_roundw
        case rel => exact ⟨m + 1, by omega, by go_num, by rw [NS.out, <- HQ2.out]; exact howni, hni⟩
        case measure => simp [intOf]; omega
       ·have hne2 : (r != 0#32) = true := by simp [hr0]
        obtain ⟨i, hi, h1, h2, h3, h4⟩ := low_bit hr0
        have hdl := hid (drop_low_lt hr0)
        have ML := hid (memN_low hi h1 h2)
        have H3 := hid h3
        have H4 := hid h4
        clear h1 h2 h3 h4 hr0
        go_wp2_with (at_builtin; refine wpList_push rfl _ _ 38 rfl wo.heap.size 58 (.int .u32 0) 4 undSets infoSet rfl (by decide) enc (fun _ => rfl) _ out rfl (howni.alloc _) ⟨wi.heap.size, 0, none⟩ (s ||| (r &&& -r)) rfl cell_new (by omega) (by simp; omega) ?_)
        intro v' w4 hown' hgrow
        have hb4 := below_push hni hszi howni hgrow
        have OW : w4.ownsRow wo.heap.size 58 1 v' (out ++ [s ||| bit i]).length ((out ++ [s ||| bit i]).map enc) := by rw [<- H3.out]; simpa using hown'
        clear hgrow howni hni hown'
        go_wp2_with fail
        go_roundw
        case rel =>
         refine ⟨r &&& (r - 1#32), out ++ [s ||| bit i], rfl, OW, hid ?_, hb4⟩
         rw [<- HQ.out, ML.out, H4.out]
         simp
        case measure => have := hdl.out; simp only [intOf, iv]; omega
     ·have hne : (s &&& x != 0#32) = true := by simp [h0]
      have hex : extS x s = [s] := by unfold extS; rw [if_pos hne]
      have EX := hid hex
      clear h0 hex
      go_wp2_with (at_builtin; refine wpList_push rfl _ _ 38 rfl wo.heap.size 58 (.int .u32 0) 4 undSets infoSet rfl (by decide) enc (fun _ => rfl) _ (nextS x (L.take m)) rfl (hownm.alloc _) ⟨wm.heap.size, 0, none⟩ s rfl cell_new (by omega) (by simp; omega) ?_)
      intro v' w4 hown' hgrow
      have hb4 := below_push hnm hszm hownm hgrow
      have OW : w4.ownsRow wo.heap.size 58 1 v' (nextS x (L.take (m + 1))).length ((nextS x (L.take (m + 1))).map enc) := by rw [NS.out, EX.out]; simpa using hown'
      clear hgrow hownm hnm hown'
      go_wp2_with fail
      go_roundw
      case rel => exact ⟨m + 1, by omega, by go_num, OW, hb4⟩
      case measure => simp [intOf]; omega
    ·rw [take_all hltm] at hownm
     have C3 := hid (reduce_any (nextS x L) u10 wm (RdE.of_owns hownm (by omega)) (by omega))
     have BM := hid hnm
     clear hownm hnm
     go_wp2_with fail
     refine C3.out.mono ?_
     rintro e w5 ⟨v5, rfl, hown5, hb5⟩
     have O5 : w5.ownsRow w.heap.size 58 1 v5 (allL (E.take (k + 1))).length ((allL (E.take (k + 1))).map enc) := by
      rw [NX.out]; exact own_mono hown5 (by omega)
     have B5 := HN.out.trans ((BM.out.trans (hb5.mono hszm)).mono hsz)
     clear hown5 hb5
     go_wp2_with fail
     go_roundw
     case rel => exact ⟨k + 1, by omega, by go_num, O5, B5⟩
     case measure => simp [intOf]; omega
  ·have hk2 := bd.out k hk
   rw [take_all hlt] at hown hk2
   have HO := hid hown
   have HB := hid (B2.out.trans (hnx.mono B2s))
   clear hown hnx
   go_wp2_with fail
   go_ret2
   rw [HR.out]
   exact ⟨_, rfl, HO.out, hk2, HB.out⟩

end Go.Proofs.YtalejolehccclaaGreatDoor

/- The walks of the reference's layer 7: Valid, All, Reduce, Smallest, Witness. -/
namespace Go.Proofs.YtalejolehccclaaGreatDoor
open Go.RowKit

def least (xs : List S) (e : S) : Bool := !xs.any (fun f => f != e && (f &&& ~~~ e == 0#32))

end Go.Proofs.YtalejolehccclaaGreatDoor

/- The walks of the reference's All and Smallest, of Witness, and of the program's Smallest. -/
namespace Go.Proofs.YtalejolehccclaaGreatDoor
open Go.RowKit

theorem all_err (n : Int) (xs : List S) (v : Value) (w : World) (hv : RdE enc w v xs) (hval : validS n xs ≠ 0) :
  Calls Tryz.prog 24 #[.int .i64 n, v] w fun e w' => e = .returned (.tuple #[.slice none 0 0, .int .i64 (validS n xs)]) /\ Below w.heap.size w w' := by
 have C1 := hid (valid_any n xs v w hv)
 have hne : (validS n xs != 0) = true := by simpa using hval
 generalize validS n xs = r at *
 clear hval hv
 go_enter Tryz.func24, Tryz.ntmps24
 go_wp2_with fail
 refine C1.out.mono ?_
 rintro e w1 ⟨rfl, hb1⟩
 have B1 := hid hb1
 clear hb1 C1
 go_wp2_with fail
 go_ret2
 exact ⟨rfl, B1.out⟩

end Go.Proofs.YtalejolehccclaaGreatDoor

/- The walks of the two Smallest, of Witness, of Dual, of few; All of both in one statement each. -/
namespace Go.Proofs.YtalejolehccclaaGreatDoor
open Go.RowKit

def resS (n : Int) (xs : List S) : List S := if validS n xs = 0 then allS xs else []
theorem allW (n : Int) (xs : List S) (v : Value) (w : World) (hv : RdE enc w v xs) :
  Calls Tryz.prog 24 #[.int .i64 n, v] w fun e w' => ∃ v', e = .returned (.tuple #[v', .int .i64 (validS n xs)]) /\ w'.ownsRow w.heap.size 58 1 v' (resS n xs).length ((resS n xs).map enc) /\ (resS n xs).length <= 65536 /\ Below w.heap.size w w' := by
 unfold resS
 by_cases h : validS n xs = 0
 ·rw [if_pos h, h]; exact all_any n xs v w hv h
 ·rw [if_neg h]
  exact (all_err n xs v w hv h).mono fun e w' ⟨he, hb⟩ => ⟨_, he, World.ownsRow_nil _ _ _ _, by simp, hb⟩

end Go.Proofs.YtalejolehccclaaGreatDoor

/- The walk of transversal.Dual, and of few. -/
namespace Go.Proofs.YtalejolehccclaaGreatDoor
open Go.RowKit

theorem undSet : Tryz.prog.underlying 58 = some (.int .u32) := by kernel_rfl

end Go.Proofs.YtalejolehccclaaGreatDoor

/- The walk of awake: the chapter's examples hold. -/
namespace Go.Proofs.YtalejolehccclaaGreatDoor
open Go.RowKit

theorem allS_check (xs ys : List S) (n N : Nat) (hN : 2 ^ n = N) (hv : ∀ x ∈ xs, ∀ i, i < 32 -> n <= i -> x.getLsbD i = false) (hy : ys.Pairwise bef)
  (hc : ∀ k, k < N -> (minS xs (BitVec.ofNat 32 k) = true ↔ BitVec.ofNat 32 k ∈ ys)) (hb : ∀ y ∈ ys, y.toNat < N) : allS xs = ys := by
 subst hN
 refine (allS_ord xs).uniq (ys := ys) (q := fun s => s ∈ ys) ⟨hy, fun _ => Iff.rfl⟩ fun s => ?_
 have hs : BitVec.ofNat 32 s.toNat = s := by apply BitVec.eq_of_toNat_eq; simp
 constructor
 ·intro h
  have := lt_of_bits (min_within h hv)
  have h2 := (hc s.toNat this).1 (by rw [hs]; exact h)
  rwa [hs] at h2
 ·intro h
  have h2 := (hc s.toNat (hb s h)).2 (by rw [hs]; exact h)
  rwa [hs] at h2

end Go.Proofs.YtalejolehccclaaGreatDoor
