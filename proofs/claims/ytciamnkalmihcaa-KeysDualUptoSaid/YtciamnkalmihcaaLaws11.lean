/- The examples of chapter 11, its awake, and its laws over lists of dependencies. -/
import Derived.Test.YtciamnkalmihcaaKeysR2
import Derived.Test.YtciamnkalmihcaaAwake
import Derived.Test.YtciamnkalmihcaaOpen
namespace Go.Proofs.Ytciamnkalmihcaa
open Go.RowKit

/-! The examples, reckoned. -/
noncomputable def closeD (fs : List F) (s : S) : S := if closedF fs (iterF fs 4 s) then iterF fs 4 s else closeS fs s
theorem closeD_eq : closeD = closeS := by
  funext fs s
  unfold closeD
  split
  · rename_i h; rw [closeS_iter 4 h]
  · rfl
def supG (cl : List F → S → S) (n : Int) (fs : List F) (s : S) : Bool := decide (validF n fs = 0) && (s >>> n.toNat == 0#32) && (cl fs s == fullN n.toNat)
def keyG (p : S → Bool) (s : S) : Bool := p s && !leavesB p s 32
def antiG (p : S → Bool) (n : Int) (fs : List F) (s : S) : Bool := decide (validF n fs = 0) && decide (sub s (fullN n.toNat)) && !p s && (List.range n.toNat).all (fun i => s.getLsbD i || p (s ||| bit i))
theorem supG_eq : supG closeD = supB := by rw [closeD_eq]; rfl
theorem keyG_eq (n : Int) (fs : List F) : keyG (supG closeD n fs) = keyB n fs := by rw [supG_eq]; rfl
theorem antiG_eq (n : Int) (fs : List F) : antiG (supG closeD n fs) n fs = antiB n fs := by rw [supG_eq]; rfl
def ex11 : List F := [(1#32, 2#32), (2#32, 1#32), (5#32, 8#32)]
theorem ex11_valid : validF 4 ex11 = 0 := by decide +kernel
theorem small_list {p : S → Bool} {ys : List S} (hp : ys.Pairwise bef) (hw : ∀ s, p s = true → s.toNat < 16) (hy : ∀ y ∈ ys, y.toNat < 16) (h : ∀ k, k < 16 → (p (BitVec.ofNat 32 k) = true ↔ BitVec.ofNat 32 k ∈ ys)) : listB p = ys := by
  symm
  apply listB_of
  refine ⟨hp, fun s => ?_⟩
  have e : BitVec.ofNat 32 s.toNat = s := by simp
  constructor
  · intro hs
    have := (h s.toNat (hy s hs)).2 (by rw [e]; exact hs)
    rwa [e] at this
  · intro hs
    have := (h s.toNat (hw s hs)).1 (by rw [e]; exact hs)
    rwa [e] at this
theorem ex11_keys : keysS 4 ex11 = [5#32, 6#32] := by
  refine small_list (by decide +kernel) (fun s hs => full_pow (m := 4) (by omega) (supB_sub (keyB_sup hs))) (fun y hy => ?_) ?_
  · simp only [List.mem_cons, List.not_mem_nil, or_false] at hy
    rcases hy with rfl | rfl <;> decide
  · rw [← keyG_eq]; decide +kernel
theorem ex11_anti : antiS 4 ex11 = [12#32, 11#32] := by
  refine small_list (by decide +kernel) (fun s hs => full_pow (m := 4) (by omega) (antiB_iff.1 hs).2.1) (fun y hy => ?_) ?_
  · simp only [List.mem_cons, List.not_mem_nil, or_false] at hy
    rcases hy with rfl | rfl <;> decide
  · rw [← antiG_eq]; decide +kernel
theorem ex11_keyR : keyR 4 ex11 = [5#32, 6#32] := by unfold keyR; rw [if_pos ex11_valid, ex11_keys]
theorem ex11_antiE : antiE 4 ex11 = 0 := by unfold antiE; rw [if_neg (by simpa using ex11_valid), if_neg (by decide)]
theorem ex11_antiR : antiR 4 ex11 = [12#32, 11#32] := by unfold antiR; rw [if_pos ex11_antiE, ex11_anti]
theorem ex11_sup : supB 4 ex11 15#32 = true := by rw [← supG_eq]; decide +kernel
theorem ex11_rdS : rdS 4 ex11 15#32 = 5#32 := by
  unfold rdS; rw [if_pos ex11_sup, ← supG_eq]; decide +kernel
theorem ex11_rdE : rdE 4 ex11 15#32 = 0 := by unfold rdE; rw [if_neg (by simpa using ex11_valid), if_pos ex11_sup]
theorem ex11_or : orL [5#32, 6#32] = 7#32 := by decide +kernel
theorem ex11_cert : certB 4 ex11 [5#32, 6#32] [12#32, 11#32] = true := by
  have := cert_true (n := 4) (fs := ex11) (by decide) ex11_valid
  rwa [ex11_keys, ex11_anti] at this
theorem lit11 {fs : List F} {m : Nat} {o : Obj} (hm : m = fs.length) (hl : fs.length ≤ 1000) (ho : o = .cells (fs.flatMap cF).toArray 31) (w : World) :
    RdF (w.alloc o) (.slice (some ⟨w.heap.size, 0, none⟩) m m) fs ∧ Below w.heap.size w (w.alloc o) := by
  subst hm ho
  exact ⟨RdC.lit cF_length w fs _ hl (by decide), below_alloc _ _⟩

set_option maxHeartbeats 800000 in
theorem awake11_any (w : World) : Calls Try.prog 19 #[] w fun e w' => e = .returned (.bool true) ∧ Below w.heap.size w w' := by
  obtain ⟨h1, b1⟩ := lit11 (fs := ex11) (m := 3) (o := .cells #[.int .u32 1, .int .u32 2, .int .u32 2, .int .u32 1, .int .u32 5, .int .u32 8] 31) rfl (by decide) rfl w
  obtain ⟨w0, hw0⟩ : ∃ w0 : World, w.alloc (.cells #[.int .u32 1, .int .u32 2, .int .u32 2, .int .u32 1, .int .u32 5, .int .u32 8] 31) = w0 := ⟨_, rfl⟩
  rw [hw0] at h1 b1
  have RA := hid h1
  have B0 := hid b1
  have W0 := hid hw0
  clear h1 b1 hw0
  have C1 := hid (fun (v : Value) (W : World) (h : RdF W v ex11) => kall_any 4 ex11 v W h)
  have C2 := hid (fun (v : Value) (W : World) (h : RdF W v ex11) => kprime_any 4 ex11 v W h)
  have C3 := hid (fun (v : Value) (W : World) (h : RdF W v ex11) => kanti_any 4 ex11 v W h)
  have C4 := hid (fun (v : Value) (W : World) (h : RdF W v ex11) => kreduce_any 4 ex11 15#32 v W h)
  have C5 := hid (fun (v x y : Value) (W : World) (h : RdF W v ex11) (hx : RdE enc W x [5#32, 6#32]) (hy : RdE enc W y [12#32, 11#32]) => kcheck_any 4 ex11 [5#32, 6#32] [12#32, 11#32] v x y W h hx hy (by decide))
  rw [ex11_keyR, ex11_valid] at C1
  rw [ex11_keyR, ex11_valid, ex11_or, show enc 7#32 = .int .u32 7 from rfl] at C2
  rw [ex11_antiR, ex11_antiE] at C3
  rw [ex11_rdS, ex11_rdE, show enc 5#32 = .int .u32 5 from rfl, show enc 15#32 = .int .u32 15 from rfl] at C4
  rw [ex11_cert] at C5
  have E1 := hid (fun (W : World) (v : Value) (h : RdE enc W v [5#32, 6#32]) => same_lit [5#32, 6#32] v W (.cells #[.int .u32 5, .int .u32 6] 24) rfl 2 rfl (by decide) h)
  have E2 := hid (fun (W : World) (v : Value) (h : RdE enc W v [12#32, 11#32]) => same_lit [12#32, 11#32] v W (.cells #[.int .u32 12, .int .u32 11] 24) rfl 2 rfl (by decide) h)
  go_enter Try.func19, Try.ntmps19
  go_wp2_with fail
  rw [W0.out]
  refine (C1.out _ _ RA.out).mono ?_
  rintro e w1 ⟨v1, rfl, hr1, hl1, hb1⟩
  have B1 := hid (B0.out.trans (hb1.mono B0.out.size))
  replace RA := hid (RA.out.below hb1)
  have R1 := hid hr1
  clear hr1 hb1 hl1
  go_wp2_with fail
  refine (C2.out _ _ RA.out).mono ?_
  rintro e w2 ⟨rfl, hb2⟩
  have B2 := hid (B1.out.trans (hb2.mono B1.out.size))
  replace RA := hid (RA.out.below hb2)
  replace R1 := hid (R1.out.below hb2)
  clear hb2
  go_wp2_with fail
  refine (C3.out _ _ RA.out).mono ?_
  rintro e w3 ⟨v3, rfl, hr3, hl3, hb3⟩
  have B3 := hid (B2.out.trans (hb3.mono B2.out.size))
  replace RA := hid (RA.out.below hb3)
  replace R1 := hid (R1.out.below hb3)
  have R3 := hid hr3
  clear hr3
  clear hb3
  clear hl3
  go_wp2_with fail
  refine (C4.out _ _ RA.out).mono ?_
  rintro e w4 ⟨rfl, hb4⟩
  have B4 := hid (B3.out.trans (hb4.mono B3.out.size))
  replace RA := hid (RA.out.below hb4)
  replace R1 := hid (R1.out.below hb4)
  replace R3 := hid (R3.out.below hb4)
  clear hb4
  go_wp2_with fail
  refine (E1.out _ _ R1.out).mono ?_
  rintro e w5 ⟨rfl, hb5⟩
  have B5 := hid (B4.out.trans (hb5.mono B4.out.size))
  replace RA := hid (RA.out.below hb5)
  replace R1 := hid (R1.out.below hb5)
  replace R3 := hid (R3.out.below hb5)
  clear hb5
  go_wp2_with fail
  refine (E2.out _ _ R3.out).mono ?_
  rintro e w6 ⟨rfl, hb6⟩
  have B6 := hid (B5.out.trans (hb6.mono B5.out.size))
  replace RA := hid (RA.out.below hb6)
  replace R1 := hid (R1.out.below hb6)
  replace R3 := hid (R3.out.below hb6)
  clear hb6
  go_wp2_with fail
  refine (C5.out _ _ _ _ RA.out R1.out R3.out).mono ?_
  rintro e w7 ⟨rfl, hb7⟩
  have B7 := hid (B6.out.trans (hb7.mono B6.out.size))
  clear hb7
  go_wp2_with fail
  go_ret
  exact ⟨rfl, B7.out⟩

/-! The laws over lists. -/
theorem cloneR11 (fs : List F) (v : Value) (w : World) (hv : RdF w v fs) (hl : fs.length ≤ 1000) :
    Calls Try.prog 21 #[v] w fun e w' => ∃ v', e = .returned v' ∧ RdF w' v' fs ∧ Below w.heap.size w w' :=
  (cloneF_any fs v w hv (by omega)).mono fun _ _ ⟨v', he, ho, hb⟩ => ⟨v', he, RdC.of_owns cF_length ho (by omega), hb⟩
theorem sameT (xs : List S) (v u : Value) (w : World) (hv : RdE enc w v xs) (hu : RdE enc w u xs) :
    Calls Try.prog 29 #[v, u] w fun e w' => e = .returned (.bool true) ∧ Below w.heap.size w w' :=
  (same_any xs xs v u w hv hu).mono fun _ _ ⟨he, q, hq⟩ => ⟨by rw [he]; simp, by rw [hq]; exact below_drewN _ _ _⟩

theorem kSuperL (n : Int) (v : Value) (s : S) (w : World) (h : ArgC cF w v) :
    Calls Try.prog 10 #[.int .i64 n, v, .int .u32 (iv s)] w fun e w' => e = .returned (.bool true) ∧ Below w.heap.size w w' := by
  have AW := hid (fun (W : World) => awake11_any W)
  have B0 := hid (Below.refl w.heap.size w)
  obtain ⟨ao, len, cap, rfl, h⟩ := h
  by_cases hl : len ≤ 70
  · have hd : decide ((len : Int) > 70) = false := by simp; omega
    obtain ⟨fs, hfl, hr⟩ := h (by omega)
    have R0 := hid hr
    have CL := hid (fun (x : Value) (W : World) (hx : RdF W x fs) => cloneR11 fs x W hx (by omega))
    have C1 := hid (fun (x : Value) (W : World) (hx : RdF W x fs) => superkey_any n fs s x W hx)
    have C2 := hid (fun (x : Value) (W : World) (hx : RdF W x fs) => refSuperkey_any n fs s x W hx)
    have C3 := hid (fun (x : Value) (W : World) (hx : RdF W x fs) => kis_any n fs s x W hx)
    have C4 := hid (fun (x : Value) (W : World) (hx : RdF W x fs) => refIs_any n fs s x W hx)
    clear hr hfl h
    generalize supB n fs s = b1 at *
    generalize keyB n fs s = b2 at *
    simp only [enc_eq] at C1 C2 C3 C4
    go_enter Try.func10, Try.ntmps10
    go_wp2_with fail
    refine (AW.out _).mono ?_
    rintro e w1 ⟨rfl, hb1⟩
    have B1 := hid (B0.out.trans (hb1.mono B0.out.size))
    replace R0 := hid (R0.out.below hb1)
    clear hb1
    go_wp2_with fail
    refine (CL.out _ _ R0.out).mono ?_
    rintro e w2 ⟨v2, rfl, hr2, hb2⟩
    have B2 := hid (B1.out.trans (hb2.mono B1.out.size))
    replace R0 := hid (R0.out.below hb2)
    have R2 := hid hr2
    clear hr2
    clear hb2
    go_wp2_with fail
    refine (C1.out _ _ R2.out).mono ?_
    rintro e w3 ⟨rfl, hb3⟩
    have B3 := hid (B2.out.trans (hb3.mono B2.out.size))
    replace R0 := hid (R0.out.below hb3)
    clear hb3
    go_wp2_with fail
    refine (C2.out _ _ R0.out).mono ?_
    rintro e w4 ⟨rfl, hb4⟩
    have B4 := hid (B3.out.trans (hb4.mono B3.out.size))
    replace R0 := hid (R0.out.below hb4)
    clear hb4
    have hbb1 : (b1 == b1) = true := by simp
    go_wp2_with fail
    refine (CL.out _ _ R0.out).mono ?_
    rintro e w5 ⟨v5, rfl, hr5, hb5⟩
    have B5 := hid (B4.out.trans (hb5.mono B4.out.size))
    replace R0 := hid (R0.out.below hb5)
    have R5 := hid hr5
    clear hr5
    clear hb5
    go_wp2_with fail
    refine (C3.out _ _ R5.out).mono ?_
    rintro e w6 ⟨rfl, hb6⟩
    have B6 := hid (B5.out.trans (hb6.mono B5.out.size))
    replace R0 := hid (R0.out.below hb6)
    clear hb6
    go_wp2_with fail
    refine (C4.out _ _ R0.out).mono ?_
    rintro e w7 ⟨rfl, hb7⟩
    have B7 := hid (B6.out.trans (hb7.mono B6.out.size))
    clear hb7
    go_wp2_with fail
    go_ret
    exact ⟨ret_bool (by simp), B7.out⟩
  · have hd : decide ((len : Int) > 70) = true := by simp; omega
    clear h
    go_enter Try.func10, Try.ntmps10
    go_wp2_with fail
    refine (AW.out _).mono ?_
    rintro e w1 ⟨rfl, hb1⟩
    have B1 := hid (B0.out.trans (hb1.mono B0.out.size))
    clear hb1
    go_wp2_with fail
    refine (AW.out _).mono ?_
    rintro e w2 ⟨rfl, hb2⟩
    have B2 := hid (B1.out.trans (hb2.mono B1.out.size))
    clear hb2
    go_wp2_with fail
    go_ret
    exact ⟨rfl, B2.out⟩

theorem kReduceL (n : Int) (v : Value) (s : S) (w : World) (h : ArgC cF w v) :
    Calls Try.prog 3 #[.int .i64 n, v, .int .u32 (iv s)] w fun e w' => e = .returned (.bool true) ∧ Below w.heap.size w w' := by
  have AW := hid (fun (W : World) => awake11_any W)
  have B0 := hid (Below.refl w.heap.size w)
  obtain ⟨ao, len, cap, rfl, h⟩ := h
  by_cases hl : len ≤ 70
  · have hd : decide ((len : Int) > 70) = false := by simp; omega
    obtain ⟨fs, hfl, hr⟩ := h (by omega)
    have R0 := hid hr
    have CL := hid (fun (x : Value) (W : World) (hx : RdF W x fs) => cloneR11 fs x W hx (by omega))
    have C1 := hid (fun (x : Value) (W : World) (hx : RdF W x fs) => kreduce_any n fs s x W hx)
    have C2 := hid (fun (x : Value) (W : World) (hx : RdF W x fs) => refKReduce_any n fs s x W hx)
    have C3 := hid (fun (x : Value) (W : World) (hx : RdF W x fs) => refIs_any n fs (rdS n fs s) x W hx)
    have RK := hid (fun h => rd_key (n := n) (fs := fs) (s := s) h)
    clear hr hfl h
    generalize rdS n fs s = b1 at *
    generalize rdE n fs s = b2 at *
    generalize keyB n fs = kb at *
    simp only [enc_eq] at C1 C2 C3
    by_cases hz : b2 = 0
    · have RK1 := RK.out hz
      rw [RK1] at C3
      subst hz
      clear RK RK1
      go_enter Try.func3, Try.ntmps3
      go_wp2_with fail
      refine (AW.out _).mono ?_
      rintro e w1 ⟨rfl, hb1⟩
      have B1 := hid (B0.out.trans (hb1.mono B0.out.size))
      replace R0 := hid (R0.out.below hb1)
      clear hb1
      go_wp2_with fail
      refine (CL.out _ _ R0.out).mono ?_
      rintro e w2 ⟨v2, rfl, hr2, hb2⟩
      have B2 := hid (B1.out.trans (hb2.mono B1.out.size))
      replace R0 := hid (R0.out.below hb2)
      have R2 := hid hr2
      clear hr2
      clear hb2
      go_wp2_with fail
      refine (C1.out _ _ R2.out).mono ?_
      rintro e w3 ⟨rfl, hb3⟩
      have B3 := hid (B2.out.trans (hb3.mono B2.out.size))
      replace R0 := hid (R0.out.below hb3)
      clear hb3
      go_wp2_with fail
      refine (C2.out _ _ R0.out).mono ?_
      rintro e w4 ⟨rfl, hb4⟩
      have B4 := hid (B3.out.trans (hb4.mono B3.out.size))
      replace R0 := hid (R0.out.below hb4)
      clear hb4
      go_wp2_with fail
      refine (C3.out _ _ R0.out).mono ?_
      rintro e w5 ⟨rfl, hb5⟩
      have B5 := hid (B4.out.trans (hb5.mono B4.out.size))
      clear hb5
      go_wp2_with fail
      go_ret
      exact ⟨rfl, B5.out⟩
    · have hz2 : (b2 != 0) = true := by simpa using hz
      clear RK hz
      go_enter Try.func3, Try.ntmps3
      go_wp2_with fail
      refine (AW.out _).mono ?_
      rintro e w1 ⟨rfl, hb1⟩
      have B1 := hid (B0.out.trans (hb1.mono B0.out.size))
      replace R0 := hid (R0.out.below hb1)
      clear hb1
      go_wp2_with fail
      refine (CL.out _ _ R0.out).mono ?_
      rintro e w2 ⟨v2, rfl, hr2, hb2⟩
      have B2 := hid (B1.out.trans (hb2.mono B1.out.size))
      replace R0 := hid (R0.out.below hb2)
      have R2 := hid hr2
      clear hr2
      clear hb2
      go_wp2_with fail
      refine (C1.out _ _ R2.out).mono ?_
      rintro e w3 ⟨rfl, hb3⟩
      have B3 := hid (B2.out.trans (hb3.mono B2.out.size))
      replace R0 := hid (R0.out.below hb3)
      clear hb3
      go_wp2_with fail
      refine (C2.out _ _ R0.out).mono ?_
      rintro e w4 ⟨rfl, hb4⟩
      have B4 := hid (B3.out.trans (hb4.mono B3.out.size))
      replace R0 := hid (R0.out.below hb4)
      clear hb4
      go_wp2_with fail
      go_ret
      exact ⟨rfl, B4.out⟩
  · have hd : decide ((len : Int) > 70) = true := by simp; omega
    clear h
    go_enter Try.func3, Try.ntmps3
    go_wp2_with fail
    refine (AW.out _).mono ?_
    rintro e w1 ⟨rfl, hb1⟩
    have B1 := hid (B0.out.trans (hb1.mono B0.out.size))
    clear hb1
    go_wp2_with fail
    refine (AW.out _).mono ?_
    rintro e w2 ⟨rfl, hb2⟩
    have B2 := hid (B1.out.trans (hb2.mono B1.out.size))
    clear hb2
    go_wp2_with fail
    go_ret
    exact ⟨rfl, B2.out⟩

theorem few11 (n : Int) (ao : Option Addr) (len cap : Nat) (w : World) :
    Calls Try.prog 24 #[.int .i64 n, .slice ao len cap] w fun e w' => e = .returned (.bool (decide (len ≤ 70) && (decide (n ≤ 6) || decide (16 < n)))) ∧ Below w.heap.size w w' := by
  by_cases hl : len ≤ 70
  · have hd : decide ((len : Int) ≤ 70) = true := by simp; omega
    rw [decide_eq_true hl]
    by_cases h6 : n ≤ 6
    · rw [decide_eq_true h6]
      go_enter Try.func24, Try.ntmps24
      go_wp2_with fail
      go_ret
      exact ⟨rfl, Below.refl _ _⟩
    · rw [decide_eq_false h6]
      have hd6 : decide (n ≤ 6) = false := decide_eq_false h6
      by_cases h16 : 16 < n
      · rw [decide_eq_true h16]
        have hd16 : decide (n > 16) = true := decide_eq_true h16
        go_enter Try.func24, Try.ntmps24
        go_wp2_with fail
        go_ret
        exact ⟨rfl, Below.refl _ _⟩
      · rw [decide_eq_false h16]
        have hd16 : decide (n > 16) = false := decide_eq_false h16
        go_enter Try.func24, Try.ntmps24
        go_wp2_with fail
        go_ret
        exact ⟨rfl, Below.refl _ _⟩
  · have hd : decide ((len : Int) ≤ 70) = false := by simp; omega
    rw [decide_eq_false hl]
    go_enter Try.func24, Try.ntmps24
    go_wp2_with fail
    go_ret
    exact ⟨rfl, Below.refl _ _⟩

theorem kAllL (n : Int) (v : Value) (w : World) (h : ArgC cF w v) :
    Calls Try.prog 4 #[.int .i64 n, v] w fun e w' => e = .returned (.bool true) ∧ Below w.heap.size w w' := by
  have AW := hid (fun (W : World) => awake11_any W)
  have B0 := hid (Below.refl w.heap.size w)
  obtain ⟨ao, len, cap, rfl, h⟩ := h
  have FW := hid (fun (W : World) => few11 n ao len cap W)
  cases hq : (decide (len ≤ 70) && (decide (n ≤ 6) || decide (16 < n))) with
  | true =>
    rw [hq] at FW
    have hl : len ≤ 70 := by rw [Bool.and_eq_true] at hq; exact of_decide_eq_true hq.1
    obtain ⟨fs, hfl, hr⟩ := h (by omega)
    have R0 := hid hr
    have CL := hid (fun (x : Value) (W : World) (hx : RdF W x fs) => cloneR11 fs x W hx (by omega))
    have C1 := hid (fun (x : Value) (W : World) (hx : RdF W x fs) => kall_any n fs x W hx)
    have C2 := hid (fun (x : Value) (W : World) (hx : RdF W x fs) => refKAll_any n fs x W hx)
    have C3 := hid (fun (x : Value) (W : World) (hx : RdF W x fs) => kprime_any n fs x W hx)
    have C4 := hid (fun (x : Value) (W : World) (hx : RdF W x fs) => refKPrime_any n fs x W hx)
    have SM := hid (fun (xs : List S) (x y : Value) (W : World) (hx : RdE enc W x xs) (hy : RdE enc W y xs) => sameT xs x y W hx hy)
    clear hr hfl h hq hl
    generalize keyR n fs = ks at *
    generalize validF n fs = r at *
    generalize orL ks = o at *
    simp only [enc_eq] at C3 C4
    go_enter Try.func4, Try.ntmps4
    go_wp2_with fail
    refine (AW.out _).mono ?_
    rintro e w1 ⟨rfl, hb1⟩
    have B1 := hid (B0.out.trans (hb1.mono B0.out.size))
    replace R0 := hid (R0.out.below hb1)
    clear hb1
    go_wp2_with fail
    refine (FW.out _).mono ?_
    rintro e w2 ⟨rfl, hb2⟩
    have B2 := hid (B1.out.trans (hb2.mono B1.out.size))
    replace R0 := hid (R0.out.below hb2)
    clear hb2
    go_wp2_with fail
    refine (CL.out _ _ R0.out).mono ?_
    rintro e w3 ⟨v3, rfl, hr3, hb3⟩
    have B3 := hid (B2.out.trans (hb3.mono B2.out.size))
    replace R0 := hid (R0.out.below hb3)
    have R3 := hid hr3
    clear hr3
    clear hb3
    go_wp2_with fail
    refine (C1.out _ _ R3.out).mono ?_
    rintro e w4 ⟨v4, rfl, hr4, hl4, hb4⟩
    have B4 := hid (B3.out.trans (hb4.mono B3.out.size))
    replace R0 := hid (R0.out.below hb4)
    have R4 := hid hr4
    clear hr4
    clear hb4
    go_wp2_with fail
    refine (C2.out _ _ R0.out).mono ?_
    rintro e w5 ⟨v5, rfl, hr5, hl5, hb5⟩
    have B5 := hid (B4.out.trans (hb5.mono B4.out.size))
    replace R0 := hid (R0.out.below hb5)
    replace R4 := hid (R4.out.below hb5)
    have R5 := hid hr5
    clear hr5
    clear hb5
    go_wp2_with fail
    refine (CL.out _ _ R0.out).mono ?_
    rintro e w6 ⟨v6, rfl, hr6, hb6⟩
    have B6 := hid (B5.out.trans (hb6.mono B5.out.size))
    replace R0 := hid (R0.out.below hb6)
    replace R4 := hid (R4.out.below hb6)
    replace R5 := hid (R5.out.below hb6)
    have R6 := hid hr6
    clear hr6
    clear hb6
    go_wp2_with fail
    refine (C3.out _ _ R6.out).mono ?_
    rintro e w7 ⟨rfl, hb7⟩
    have B7 := hid (B6.out.trans (hb7.mono B6.out.size))
    replace R0 := hid (R0.out.below hb7)
    replace R4 := hid (R4.out.below hb7)
    replace R5 := hid (R5.out.below hb7)
    clear hb7
    go_wp2_with fail
    refine (C4.out _ _ R0.out).mono ?_
    rintro e w8 ⟨rfl, hb8⟩
    have B8 := hid (B7.out.trans (hb8.mono B7.out.size))
    replace R4 := hid (R4.out.below hb8)
    replace R5 := hid (R5.out.below hb8)
    clear hb8
    go_wp2_with fail
    refine (SM.out _ _ _ _ R4.out R5.out).mono ?_
    rintro e w9 ⟨rfl, hb9⟩
    have B9 := hid (B8.out.trans (hb9.mono B8.out.size))
    clear hb9
    go_wp2_with fail
    go_ret
    exact ⟨rfl, B9.out⟩
  | false =>
    rw [hq] at FW
    clear h hq
    go_enter Try.func4, Try.ntmps4
    go_wp2_with fail
    refine (AW.out _).mono ?_
    rintro e w1 ⟨rfl, hb1⟩
    have B1 := hid (B0.out.trans (hb1.mono B0.out.size))
    clear hb1
    go_wp2_with fail
    refine (FW.out _).mono ?_
    rintro e w2 ⟨rfl, hb2⟩
    have B2 := hid (B1.out.trans (hb2.mono B1.out.size))
    clear hb2
    go_wp2_with fail
    refine (AW.out _).mono ?_
    rintro e w3 ⟨rfl, hb3⟩
    have B3 := hid (B2.out.trans (hb3.mono B2.out.size))
    clear hb3
    go_wp2_with fail
    go_ret
    exact ⟨rfl, B3.out⟩

theorem kAntiL (n : Int) (v : Value) (w : World) (h : ArgC cF w v) :
    Calls Try.prog 5 #[.int .i64 n, v] w fun e w' => e = .returned (.bool true) ∧ Below w.heap.size w w' := by
  have AW := hid (fun (W : World) => awake11_any W)
  have B0 := hid (Below.refl w.heap.size w)
  obtain ⟨ao, len, cap, rfl, h⟩ := h
  by_cases hl : len ≤ 70
  · have hd : decide ((len : Int) > 70) = false := by simp; omega
    by_cases hn : 6 < n ∧ n ≤ 12
    · have h6 : decide (n > 6) = true := by simp; omega
      have h12 : decide (n ≤ 12) = true := by simp; omega
      clear h hn
      go_enter Try.func5, Try.ntmps5
      go_wp2_with fail
      refine (AW.out _).mono ?_
      rintro e w1 ⟨rfl, hb1⟩
      have B1 := hid (B0.out.trans (hb1.mono B0.out.size))
      clear hb1
      go_wp2_with fail
      refine (AW.out _).mono ?_
      rintro e w2 ⟨rfl, hb2⟩
      have B2 := hid (B1.out.trans (hb2.mono B1.out.size))
      clear hb2
      go_wp2_with fail
      go_ret
      exact ⟨rfl, B2.out⟩
    · obtain ⟨fs, hfl, hr⟩ := h (by omega)
      have R0 := hid hr
      have CL := hid (fun (x : Value) (W : World) (hx : RdF W x fs) => cloneR11 fs x W hx (by omega))
      have C1 := hid (fun (x : Value) (W : World) (hx : RdF W x fs) => kanti_any n fs x W hx)
      have C2 := hid (fun (x : Value) (W : World) (hx : RdF W x fs) => refKAnti_any n fs x W hx)
      have SM := hid (fun (xs : List S) (x y : Value) (W : World) (hx : RdE enc W x xs) (hy : RdE enc W y xs) => sameT xs x y W hx hy)
      have hnn : (decide (n > 6) = false) ∨ (decide (n > 6) = true ∧ decide (n ≤ 12) = false) := by
        by_cases h5 : n ≤ 6
        · exact .inl (by simp; omega)
        · exact .inr ⟨by simp; omega, by simp; omega⟩
      clear hr hfl h hn
      generalize antiR n fs = ks at *
      generalize antiE n fs = r at *
      rcases hnn with h6 | ⟨h6, h12⟩
      all_goals
        go_enter Try.func5, Try.ntmps5
        go_wp2_with fail
        refine (AW.out _).mono ?_
        rintro e w1 ⟨rfl, hb1⟩
        have B1 := hid (B0.out.trans (hb1.mono B0.out.size))
        replace R0 := hid (R0.out.below hb1)
        clear hb1
        go_wp2_with fail
        refine (CL.out _ _ R0.out).mono ?_
        rintro e w2 ⟨v2, rfl, hr2, hb2⟩
        have B2 := hid (B1.out.trans (hb2.mono B1.out.size))
        replace R0 := hid (R0.out.below hb2)
        have R2 := hid hr2
        clear hr2
        clear hb2
        go_wp2_with fail
        refine (C1.out _ _ R2.out).mono ?_
        rintro e w3 ⟨v3, rfl, hr3, hl3, hb3⟩
        have B3 := hid (B2.out.trans (hb3.mono B2.out.size))
        replace R0 := hid (R0.out.below hb3)
        have R3 := hid hr3
        clear hr3
        clear hb3
        go_wp2_with fail
        refine (C2.out _ _ R0.out).mono ?_
        rintro e w4 ⟨v4, rfl, hr4, hl4, hb4⟩
        have B4 := hid (B3.out.trans (hb4.mono B3.out.size))
        replace R3 := hid (R3.out.below hb4)
        have R4 := hid hr4
        clear hr4
        clear hb4
        go_wp2_with fail
        refine (SM.out _ _ _ _ R3.out R4.out).mono ?_
        rintro e w5 ⟨rfl, hb5⟩
        have B5 := hid (B4.out.trans (hb5.mono B4.out.size))
        clear hb5
        go_wp2_with fail
        go_ret
        exact ⟨rfl, B5.out⟩
  · have hd : decide ((len : Int) > 70) = true := by simp; omega
    clear h
    go_enter Try.func5, Try.ntmps5
    go_wp2_with fail
    refine (AW.out _).mono ?_
    rintro e w1 ⟨rfl, hb1⟩
    have B1 := hid (B0.out.trans (hb1.mono B0.out.size))
    clear hb1
    go_wp2_with fail
    refine (AW.out _).mono ?_
    rintro e w2 ⟨rfl, hb2⟩
    have B2 := hid (B1.out.trans (hb2.mono B1.out.size))
    clear hb2
    go_wp2_with fail
    go_ret
    exact ⟨rfl, B2.out⟩

end Go.Proofs.Ytciamnkalmihcaa
