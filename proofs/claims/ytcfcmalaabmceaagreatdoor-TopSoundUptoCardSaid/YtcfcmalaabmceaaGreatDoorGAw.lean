/- Texts that belong together, in one file. -/
import Derived.Test.YtcfcmalaabmceaaGreatDoorGTopA
import Derived.Test.YtcfcmalaabmceaaGreatDoorGFd
import Derived.Test.YtcfcmalaabmceaaGreatDoorGKm3
import Derived.Test.YtcfcmalaabmceaaGreatDoorGPlain
import Derived.Test.YtcfcmalaabmceaaGreatDoorGDerB
import Derived.Test.YtcfcmalaabmceaaGreatDoorGDer
import Derived.Test.YtcfcmalaabmceaaGreatDoorGRefu
import Derived.Test.YtcfcmalaabmceaaGreatDoorGBas
/- The walk of chapter 9's awake: its examples hold. -/
namespace Go.Proofs.YtcfcmalaabmceaaGreatDoor
open Go.RowKit




theorem equalS_lit (l : List S) (v : Value) (W : World) (o : Obj) (ho : o = .cells (l.map enc).toArray 47) (m : Nat) (hm : m = l.length) (hl : l.length ≤ 1000) (h : RdE enc W v l) :
    Calls Tryz.prog 19 #[v, .slice (some ⟨W.heap.size, 0, none⟩) m m] (W.alloc o) fun e w' => e = .returned (.bool true) ∧ Below W.heap.size W w' := by
  subst ho hm
  refine (equalS_any l l v _ _ (h.below (below_alloc _ _)) (RdE.lit W l _ hl)).mono fun e w' ⟨he, q, hq⟩ => ⟨by rw [he]; simp, ?_⟩
  subst hq
  exact (below_alloc _ _).trans (below_drewN _ _ _)


end Go.Proofs.YtcfcmalaabmceaaGreatDoor


/- The walk of awake20: what follows is proved, what does not is refuted. -/
namespace Go.Proofs.YtcfcmalaabmceaaGreatDoor
open Go.RowKit
set_option linter.unusedVariables false
set_option linter.unusedSimpArgs false

noncomputable def closeD20 (fs : List F) (s : S) : S := if closedF fs (iterF fs 4 s) then iterF fs 4 s else closeS fs s
theorem closeD20_eq : closeD20 = closeS := by
  funext fs s
  unfold closeD20
  split
  · rename_i h; rw [closeS_iter 4 h]
  · rfl
def supG20 (cl : List F → S → S) (n : Int) (fs : List F) (s : S) : Bool := decide (validF n fs = 0) && (s >>> n.toNat == 0#32) && (cl fs s == fullN n.toNat)
def keyG20 (p : S → Bool) (s : S) : Bool := p s && !leavesB p s 32
theorem keyG20_eq (n : Int) (fs : List F) : keyG20 (supG20 closeD20 n fs) = keyQ n fs := by
  have e : supG20 closeD20 = supB := by rw [closeD20_eq]; rfl
  rw [e]; rfl
theorem a20_keys : keyR ((3 : Nat) : Int) a34F = [1#32] := by
  show keyR 3 a34F = _
  unfold keyR
  rw [if_pos a34_valid]
  have hw : ∀ s, keyQ 3 a34F s = true → s.toNat < 8 := fun s hs => full_pow (m := 3) (by omega) (supB_sub (keyQ_sup hs))
  have hk : ∀ k, k < 8 → (keyQ 3 a34F (BitVec.ofNat 32 k) = true ↔ BitVec.ofNat 32 k ∈ [1#32]) := by rw [← keyG20_eq]; decide +kernel
  symm
  apply listB_of
  refine ⟨by decide +kernel, fun s => ?_⟩
  have e : BitVec.ofNat 32 s.toNat = s := by simp
  constructor
  · intro hs
    rw [List.mem_singleton] at hs
    subst hs
    exact (hk 1 (by omega)).2 (by simp)
  · intro hs
    have := (hk s.toNat (hw s hs)).1 (by rw [e]; exact hs)
    rwa [e] at this
theorem a20_close1 : closeS a34F 1#32 = 7#32 := closeS_iter 3 (by decide +kernel)
theorem a20_close2 : closeS a34F 2#32 = 6#32 := closeS_iter 3 (by decide +kernel)
theorem a20_imp : impS a34F (1#32, 4#32) = true := by
  unfold impS; rw [show closeS a34F (1#32, 4#32).1 = 7#32 from a20_close1]; decide +kernel
theorem a20_no : impS a34F (2#32, 1#32) = false := by
  unfold impS; rw [show closeS a34F (2#32, 1#32).1 = 6#32 from a20_close2]; decide +kernel
theorem a20_mvd {ys : List S} (h : BlkR 3 (allM a34F []) 1#32 ys) : ys.any (cutB 4#32) = false := by
  have e : allM a34F [] = [(1#32, 2#32), (2#32, 4#32)] := allM_lit
  have e2 : fullN 3 &&& ~~~ 1#32 = 6#32 := by decide
  unfold BlkR at h
  rw [e, e2] at h
  exact lit_cut h.1 h.2.2.1
theorem proveD_pos (fs : List F) (g : F) : 0 < (proveD fs g).length := by unfold proveD; rw [List.length_append]; simp
theorem bitRs_len {m : Nat} {l : List S} {rs : List Row3} (h : rs.map (fun r => (r.1, r.2.2)) = bitRs m l) : rs.length = l.length := by
  have := congrArg List.length h; simpa [bitRs] using this

set_option maxHeartbeats 3200000 in
set_option maxRecDepth 100000 in
theorem awake20_any (w : World) (hT : Tab w) : Calls Tryz.prog 6 #[] w fun e w' => e = .returned (.bool true) ∧ Below w.heap.size w w' := by
  have HT := hid hT
  have LA := hid (fun (W : World) => lit_call (fs := a34F) (m := 2) (o := .cells #[.int .u32 1, .int .u32 2, .int .u32 2, .int .u32 4] 49) rfl (by decide) rfl W)
  have C1 := hid (fun (v : Value) (W : World) (h : RdF W v a34F) => show Calls Tryz.prog 16 #[.int .i64 3, v, .agg #[.int .u32 1, .int .u32 4]] W fun e w' => ∃ (uo : Option Addr) (un ucap : Nat), e = .returned (.tuple #[.slice uo un ucap, .int .i64 0]) ∧ 0 < un ∧ Below W.heap.size W w' from
    (dprove_any 3 a34F (1#32, 4#32) v W h (by omega) a34_valid (by decide +kernel) (by decide +kernel) a20_imp).mono fun e w' ⟨v', sts, he, ho, hm, hb⟩ => by
      have hl : sts.length = (proveD a34F (1#32, 4#32)).length := by rw [← hm, List.length_map]
      have hp := proveD_pos a34F (1#32, 4#32)
      obtain ⟨g, cap, e2, -, -⟩ := ho.rows.form (by omega)
      exact ⟨_, _, cap, by rw [he, e2], by omega, hb⟩)
  have C2 := hid (fun (v : Value) (W : World) (h : RdF W v a34F) => show Calls Tryz.prog 17 #[.int .i64 3, v, .agg #[.int .u32 2, .int .u32 1]] W fun e w' => ∃ (ao to_ : Option Addr) (an acap tcap : Nat), e = .returned (.tuple #[.agg #[.string (ByteArray.mk #[116]), .slice ao an acap, .slice to_ 2 tcap], .int .i64 0]) ∧ Below W.heap.size W w' from
    (rfd_any 3 a34F (2#32, 1#32) v W h (by omega) a34_valid (by decide +kernel)).mono fun e w' hp => by
      obtain ⟨av, tv, rs, he, ht, hm⟩ := hp.2.1 a20_no
      have hl := bitRs_len hm
      obtain ⟨a, c, e1, -⟩ := ht.1.split
      obtain ⟨b, d, e2, -⟩ := RdR.split ht.2
      rw [show (armT 3 rs).2.2 = rs from rfl, hl] at e2
      exact ⟨a, b, _, c, d, by rw [he, e1, e2]; rfl, hp.2.2⟩)
  have C3 := hid (fun (v : Value) (W : World) (h : RdF W v a34F) => show Calls Tryz.prog 18 #[.int .i64 3, v] W fun e w' => ∃ v', e = .returned (.tuple #[v', .int .i64 0]) ∧ RdE enc w' v' [1#32] ∧ Below W.heap.size W w' from
    (keysAll_any ((3 : Nat) : Int) a34F v W h).mono fun e w' ⟨v', he, hr, _, hb⟩ => ⟨v', by rw [he]; rw [show validF ((3 : Nat) : Int) a34F = 0 from a34_valid], by rw [a20_keys] at hr; exact hr, hb⟩)
  have C4 := hid (fun (v : Value) (W : World) (hb : Below w.heap.size w W) (h : RdF W v a34F) => show Calls Tryz.prog 11 #[.int .i64 3, v, .slice none 0 0, .agg #[.int .u32 1, .int .u32 4]] W fun e w' => e = .returned (.tuple #[.bool true, .int .i64 0]) ∧ Below W.heap.size W w' from
    (bmvd_any 3 a34F [] (1#32, 4#32) v (.slice none 0 0) W (hT.below hb) h (RdC.of_owns cF_length (World.ownsRow_nil W 0 51 2) (by simp)) (by omega) a34_valid (by decide) (by decide) (by simp) (by decide +kernel)).mono fun e w' ⟨ys, hy, he, hb⟩ => ⟨by rw [he, a20_mvd hy]; rfl, hb⟩)
  have C5 := hid (fun (v : Value) (W : World) (h : RdE enc W v [1#32]) => equalS_lit [1#32] v W (.cells #[.int .u32 1] 47) rfl 1 rfl (by decide) h)
  clear hT
  go_enter Tryz.func6, Tryz.ntmps6
  go_wp2_with fail
  have B0 := hid (LA.out w).2
  have Q0 := hid (LA.out w).1
  refine (C1.out _ _ Q0.out).mono ?_
  rintro e w1 ⟨uo, un, ucap, rfl, hun, hb1⟩
  have Q1 := hid (RdC.below Q0.out hb1)
  have B1 := hid (B0.out.trans (hb1.mono B0.out.size))
  have un0 : (0 : Int) < (un : Int) := by omega
  have un1 : decide ((un : Int) > 0) = true := by rw [decide_eq_true_iff]; omega
  clear hb1 Q0 B0 hun
  go_wp2_with fail
  refine (C2.out _ _ Q1.out).mono ?_
  rintro e w2 ⟨ao, to_, an, acap, tcap, rfl, hb2⟩
  have B2 := hid (B1.out.trans (hb2.mono B1.out.size))
  have Q2 := hid (RdC.below Q1.out hb2)
  have hbx := below_alloc w2 (.cells #[.string (ByteArray.mk #[116]), .slice ao an acap, .slice to_ 2 tcap] 35)
  have CC := hid (fun W h => cells3 (w := w2) (a := .string (ByteArray.mk #[116])) (b := .slice ao an acap) (c := .slice to_ 2 tcap) (t := 35) W h)
  have Q3 := hid (RdC.below Q2.out hbx)
  have B3 := hid (B2.out.trans (hbx.mono B2.out.size))
  obtain ⟨w3, hw3⟩ : ∃ w3 : World, w2.alloc (.cells #[.string (ByteArray.mk #[116]), .slice ao an acap, .slice to_ 2 tcap] 35) = w3 := ⟨_, rfl⟩
  have W3 := hid hw3
  clear hb2 hbx hw3 Q1 Q2
  go_wp2_with fail
  rw [W3.out] at CC Q3 B3 ⊢
  refine (C3.out _ _ Q3.out).mono ?_
  rintro e w4 ⟨v4, rfl, hr4, hb4⟩
  have B4 := hid (B3.out.trans (hb4.mono B3.out.size))
  have Q4 := hid (RdC.below Q3.out hb4)
  have R4 := hid hr4
  have D4 := hid hb4
  clear hr4 hb4 Q3
  go_wp2_with fail
  refine (C4.out _ _ B4.out Q4.out).mono ?_
  rintro e w5 ⟨rfl, hb5⟩
  have B5 := hid (B4.out.trans (hb5.mono B4.out.size))
  have R5 := hid (R4.out.below hb5)
  obtain ⟨c0, c1, c2⟩ := CC.out _ (D4.out.trans (hb5.mono D4.out.size))
  clear hb5
  go_wp2_with fail
  refine (C5.out _ _ R5.out).mono ?_
  rintro e w6 ⟨rfl, hb6⟩
  have B6 := hid (B5.out.trans (hb6.mono B5.out.size))
  clear hb6 c0 c1 c2
  go_wp2_with fail
  go_ret
  exact ⟨rfl, B6.out⟩

end Go.Proofs.YtcfcmalaabmceaaGreatDoor

