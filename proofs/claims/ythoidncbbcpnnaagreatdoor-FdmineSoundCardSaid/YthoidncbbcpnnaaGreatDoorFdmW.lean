/- The walk of awake of chapter 28: the chapter's example holds. -/
import Derived.Test.YthoidncbbcpnnaaGreatDoorFdmX
import Derived.Test.YthoidncbbcpnnaaGreatDoorGFdmC
namespace Go.Proofs.YthoidncbbcpnnaaGreatDoor
open Go.RowKit
set_option linter.unusedVariables false

/-! The example's values. -/
def ex8A : List V3 := [codeV 1, codeV 1, codeV 5]
def ex8B : List V3 := [codeV 1, codeV 2, codeV 5]
def ex8C : List V3 := [codeV 2, codeV 2, codeV 6]
def ex8S (s1 s2 s3 : Value) : List Row3 := [(1, s1, ex8A), (2, s2, ex8B), (3, s3, ex8C)]
theorem ex8_shape {rs : List Row3} (h : rs.map (fun r => (r.1, r.2.2)) = ex8R) : ∃ s1 s2 s3, rs = ex8S s1 s2 s3 := by
  have e : ex8R = [(1, ex8A), (2, ex8B), (3, ex8C)] := by first | rfl | (unfold ex8R exD ex8A ex8B ex8C; rfl)
  rw [e] at h
  match rs, h with
  | [(a, s1, x), (b, s2, y), (c, s3, z)], h =>
    simp only [List.map_cons, List.map_nil, List.cons.injEq, Prod.mk.injEq, and_true] at h
    obtain ⟨⟨rfl, rfl⟩, ⟨rfl, rfl⟩, rfl, rfl⟩ := h
    exact ⟨s1, s2, s3, rfl⟩
theorem ex8_name : nameB (ByteArray.mk #[114]) = true := by
  unfold nameB
  simp only [ByteArray.toList_eq]
  decide +kernel
variable (s1 s2 s3 : Value)
theorem ex8_tabE : tabE (ex8 (ex8S s1 s2 s3)) = 0 := by
  have h2 : attrsBad (ex8 (ex8S s1 s2 s3)).2.1 = false := ex_attrs s1 s2 s3
  have h3 : rowsE 0 (ex8 (ex8S s1 s2 s3)).2.1.length (ex8 (ex8S s1 s2 s3)).2.2 = 0 := by
    show rowsE 0 3 [(1, s1, [codeV 1, codeV 1, codeV 5]), (2, s2, [codeV 1, codeV 2, codeV 5]), (3, s3, [codeV 2, codeV 2, codeV 6])] = 0
    simp [rowsE, code_ok]
  unfold tabE
  rw [show nameB (ex8 (ex8S s1 s2 s3)).1 = true from ex8_name, h2, h3]
  rfl
theorem ex8_fE : fE (ex8 (ex8S s1 s2 s3)) = 0 := by
  unfold fE
  rw [ex8_tabE]
  rfl
theorem ex8_faE : faE (ex8 (ex8S s1 s2 s3)) 1 = 0 := by
  unfold faE
  rw [ex8_fE]
  first | rfl | decide
theorem ex8_eqV : eqV (codeV 1) (codeV 1) = true ∧ eqV (codeV 1) (codeV 2) = false ∧ eqV (codeV 2) (codeV 2) = true ∧ eqV (codeV 5) (codeV 5) = true ∧ eqV (codeV 5) (codeV 6) = false := by
  simp only [eqV, eqT, codeV, ByteArray.toList_eq]
  decide
theorem ex8_rows : rowsS ex8A ex8B 3 = 5#32 ∧ rowsS ex8A ex8C 3 = 0#32 ∧ rowsS ex8B ex8C 3 = 2#32 := by
  obtain ⟨h1, h2, h3, h4, h5⟩ := ex8_eqV
  refine ⟨?_, ?_, ?_⟩ <;> simp [rowsS, h1, h2, h3, h4, h5, ex8A, ex8B, ex8C]
theorem ex8_pairs : pairsS (ex8S s1 s2 s3) = [5#32, 0#32, 2#32] := by
  obtain ⟨h1, h2, h3⟩ := ex8_rows
  show [rowsS ex8A ex8B 3, rowsS ex8A ex8C 3, rowsS ex8B ex8C 3] = _
  rw [h1, h2, h3]
theorem ex8_okT : okT (ex8 (ex8S s1 s2 s3)) := by
  have hc : ∀ c, okV (codeV c) := fun c => ⟨by have := code_ok c; unfold badV at this; simpa using this, code_num c⟩
  intro r hr x hx
  replace hr : r ∈ ex8S s1 s2 s3 := hr
  unfold ex8S at hr
  simp only [List.mem_cons, List.not_mem_nil, or_false] at hr
  rcases hr with rfl | rfl | rfl <;> (simp only [ex8A, ex8B, ex8C, List.mem_cons, List.not_mem_nil, or_false] at hx; rcases hx with rfl | rfl | rfl <;> exact hc _)
theorem key_lit {xs ys : List S} (hv : ∀ x ∈ xs, x.toNat < 8) (hp : ys.Pairwise bef) (h : ∀ k, k < 8 → (minS xs (BitVec.ofNat 32 k) = true ↔ BitVec.ofNat 32 k ∈ ys)) (hb : ∀ y ∈ ys, y.toNat < 8) : allS xs = ys := by
  refine allS_check xs ys 3 8 (by decide) (fun x hx i hi h3 => ?_) hp h hb
  have h1 := hv x hx
  rw [BitVec.getLsbD, Nat.testBit_lt_two_pow]
  have : 2 ^ 3 ≤ 2 ^ i := Nat.pow_le_pow_right (by decide) h3
  omega
theorem ex8_for0 : forL 3 (ex8S s1 s2 s3) 0 = [4#32] := by
  have hw : Wide 3 (ex8S s1 s2 s3) := by
    intro r hr
    unfold ex8S at hr
    simp only [List.mem_cons, List.not_mem_nil, or_false] at hr
    rcases hr with rfl | rfl | rfl <;> rfl
  rw [for_key hw (by decide) (by decide), ex8_pairs]
  have e : edgS (othS 3 0) (withoutS [5#32, 0#32, 2#32] 0) = [6#32, 4#32] := by decide +kernel
  unfold keyO
  rw [e]
  exact key_lit (by intro x hx; simp only [List.mem_cons, List.not_mem_nil, or_false] at hx; rcases hx with rfl | rfl <;> decide) (by decide +kernel) (by decide +kernel) (by intro x hx; simp only [List.mem_cons, List.not_mem_nil, or_false] at hx; rcases hx with rfl; decide)
theorem ex8_for1 : forL 3 (ex8S s1 s2 s3) 1 = [] := by
  have hw : Wide 3 (ex8S s1 s2 s3) := by
    intro r hr
    unfold ex8S at hr
    simp only [List.mem_cons, List.not_mem_nil, or_false] at hr
    rcases hr with rfl | rfl | rfl <;> rfl
  rw [for_key hw (by decide) (by decide), ex8_pairs]
  have e : edgS (othS 3 1) (withoutS [5#32, 0#32, 2#32] 1) = [0#32, 5#32] := by decide +kernel
  unfold keyO
  rw [e]
  exact key_lit (by intro x hx; simp only [List.mem_cons, List.not_mem_nil, or_false] at hx; rcases hx with rfl | rfl <;> decide) List.Pairwise.nil (by decide +kernel) (by intro x hx; cases hx)
theorem ex8_for2 : forL 3 (ex8S s1 s2 s3) 2 = [1#32] := by
  have hw : Wide 3 (ex8S s1 s2 s3) := by
    intro r hr
    unfold ex8S at hr
    simp only [List.mem_cons, List.not_mem_nil, or_false] at hr
    rcases hr with rfl | rfl | rfl <;> rfl
  rw [for_key hw (by decide) (by decide), ex8_pairs]
  have e : edgS (othS 3 2) (withoutS [5#32, 0#32, 2#32] 2) = [3#32, 1#32] := by decide +kernel
  unfold keyO
  rw [e]
  exact key_lit (by intro x hx; simp only [List.mem_cons, List.not_mem_nil, or_false] at hx; rcases hx with rfl | rfl <;> decide) (by decide +kernel) (by decide +kernel) (by intro x hx; simp only [List.mem_cons, List.not_mem_nil, or_false] at hx; rcases hx with rfl; decide)
theorem ex8_all : allR (ex8 (ex8S s1 s2 s3)) = [(1#32, 4#32), (4#32, 1#32)] := by
  have h1 : allR (ex8 (ex8S s1 s2 s3)) = bndL 3 (ex8S s1 s2 s3) 16 := by unfold allR; rw [if_pos (ex8_fE s1 s2 s3)]; rfl
  rw [h1]
  refine ordF_uniq (bndG_ord (by decide)) (by decide +kernel) fun f => ?_
  rw [← h1, mem_allR (ex8_fE s1 s2 s3)]
  show (∃ a : Nat, a < 3 ∧ f.1 ∈ forL 3 (ex8S s1 s2 s3) a ∧ f.2 = bit a) ↔ _
  constructor
  · rintro ⟨a, ha, hf, e⟩
    rcases (show a = 0 ∨ a = 1 ∨ a = 2 by omega) with rfl | rfl | rfl
    · rw [ex8_for0, List.mem_singleton] at hf
      exact List.mem_cons_of_mem _ (List.mem_singleton.2 (Prod.ext hf e))
    · rw [ex8_for1] at hf; cases hf
    · rw [ex8_for2, List.mem_singleton] at hf
      exact List.mem_cons.2 (.inl (Prod.ext hf e))
  · intro hf
    simp only [List.mem_cons, List.not_mem_nil, or_false] at hf
    rcases hf with rfl | rfl
    · exact ⟨2, by decide, by rw [ex8_for2]; simp, by decide⟩
    · exact ⟨0, by decide, by rw [ex8_for0]; simp, by decide⟩
theorem ex8_evd : evdR (ex8 (ex8S s1 s2 s3)) 1 = [(5#32, 1, 2)] := by
  have h1 : maxL (ex8 (ex8S s1 s2 s3)) 1 = [5#32] := by
    have h2 : maxL (ex8 (ex8S s1 s2 s3)) ((1 : Nat) : Int) = keepS upR (withoutS (pairsS (ex8S s1 s2 s3)) 1) := by
      unfold maxL
      rw [if_pos (show arityE (ex8 (ex8S s1 s2 s3)) ((1 : Nat) : Int) = 0 from faE_ar (ex8_faE s1 s2 s3)), Int.toNat_natCast]
      rfl
    have h3 : withoutS [5#32, 0#32, 2#32] 1 = [5#32, 0#32] := by decide +kernel
    have h4 : keepS upR [5#32, 0#32] = [5#32] := by
      unfold keepS
      rw [ord_lit (b := [0#32, 5#32]) (by decide +kernel) (by decide)]
      decide +kernel
    rw [ex8_pairs, h3, h4] at h2
    exact h2
  have h5 : fstW (ex8S s1 s2 s3) 1 5#32 = (1, 2) := by
    obtain ⟨g1, -, -⟩ := ex8_rows
    have hp : wP 1 5#32 ((1, s1, ex8A), (2, s2, ex8B)) = true := (wP_iff (m := 3) rfl rfl (by decide) (by decide) (by decide +kernel)).2 (by
      show sub 5#32 (rowsS ex8A ex8B 3) ∧ (rowsS ex8A ex8B 3).getLsbD 1 = false
      rw [g1]
      exact ⟨sub_refl _, by decide⟩)
    unfold fstW
    show fstP ((((1, s1, ex8A), (2, s2, ex8B)) :: _).find? (wP 1 5#32)) = _
    rw [List.find?_cons, hp]
    rfl
  unfold evdR
  rw [if_pos (ex8_faE s1 s2 s3), h1]
  show [(5#32, fstW (ex8S s1 s2 s3) 1 5#32)] = _
  rw [h5]
theorem ex8_forR : forR (ex8 (ex8S s1 s2 s3)) 1 = [] := by
  unfold forR
  rw [if_pos (ex8_faE s1 s2 s3)]
  exact ex8_for1 s1 s2 s3
theorem ex8_chk : fchkB (ex8 (ex8S s1 s2 s3)) 1 [] [(5#32, 1, 2)] = true := by
  have h := chk_for (ex8_faE s1 s2 s3) (by show 3 ≤ 14; decide)
  rw [ex8_forR, ex8_evd] at h
  exact h

set_option maxHeartbeats 3200000 in
set_option maxRecDepth 100000 in
theorem awake28_any (w : World) (hT : Tab w) : Calls Tryz.prog 10 #[] w fun e w' => e = .returned (.bool true) ∧ Below w.heap.size w w' := by
  have EX := hid (fun (W : World) => ex8_any W)
  have HT := hid hT
  have KA := hid (fun (s1 s2 s3 av rv : Value) (W : World) (h : Below w.heap.size w W) (hr : RdT W av rv (ex8 (ex8S s1 s2 s3))) => show Calls Tryz.prog 12 #[.agg #[.string (ByteArray.mk #[114]), av, rv]] W fun e w' => ∃ v', e = .returned (.tuple #[v', .int .i64 0]) ∧ RdF w' v' [(1#32, 4#32), (4#32, 1#32)] ∧ Below W.heap.size W w' by
    have h1 := fall_any _ av rv W hr (HT.out.below h) (fun _ => ex8_okT s1 s2 s3)
    rw [ex8_fE, ex8_all] at h1
    exact h1)
  have KE := hid (fun (s1 s2 s3 av rv : Value) (W : World) (h : Below w.heap.size w W) (hr : RdT W av rv (ex8 (ex8S s1 s2 s3))) => show Calls Tryz.prog 19 #[.agg #[.string (ByteArray.mk #[114]), av, rv], .int .i64 1] W fun e w' => ∃ v', e = .returned (.tuple #[v', .int .i64 0]) ∧ RdW w' v' [(5#32, 1, 2)] ∧ Below W.heap.size W w' by
    have h1 := fevd_any _ av rv 1 W hr (HT.out.below h)
    rw [ex8_faE, ex8_evd] at h1
    exact h1)
  have KF := hid (fun (s1 s2 s3 av rv : Value) (W : World) (h : Below w.heap.size w W) (hr : RdT W av rv (ex8 (ex8S s1 s2 s3))) => show Calls Tryz.prog 17 #[.agg #[.string (ByteArray.mk #[114]), av, rv], .int .i64 1] W fun e w' => ∃ v', e = .returned (.tuple #[v', .int .i64 0]) ∧ RdE enc w' v' [] ∧ Below W.heap.size W w' by
    have h1 := fFor_any _ av rv 1 W hr (HT.out.below h) (fun _ => ex8_okT s1 s2 s3)
    rw [ex8_faE, ex8_forR] at h1
    exact h1.mono fun e w' ⟨v', he, ho, hb⟩ => ⟨v', he, by first | exact RdE.of_owns (xs := []) ho (by decide) | exact ho, hb⟩)
  have KC := hid (fun (s1 s2 s3 av rv wv : Value) (W : World) (h : Below w.heap.size w W) (hr : RdT W av rv (ex8 (ex8S s1 s2 s3))) (hw : RdW W wv [(5#32, 1, 2)]) => show Calls Tryz.prog 23 #[.agg #[.string (ByteArray.mk #[114]), av, rv], .int .i64 1, .slice none 0 0, wv] W fun e w' => e = .returned (.bool true) ∧ Below W.heap.size W w' by
    have h1 := fchk_any _ av rv 1 [] (.slice none 0 0) _ wv W hr (HT.out.below h) (fun _ => ex8_okT s1 s2 s3) (RdE.nil _ _) hw (by decide) (by decide)
    rw [ex8_chk] at h1
    exact h1)
  have HF := hid (fun (v : Value) (W : World) (hv : RdF W v [(1#32, 4#32), (4#32, 1#32)]) => show Calls Tryz.prog 14 #[v, .slice (some ⟨W.heap.size, 0, none⟩) 2 2] (W.alloc (.cells #[.int .u32 1, .int .u32 4, .int .u32 4, .int .u32 1] 56)) fun e w' => e = .returned (.bool true) ∧ Below W.heap.size W w' from
    (fsame9_any [(1#32, 4#32), (4#32, 1#32)] v _ _ (RdC.below hv (below_alloc _ _)) (RdC.lit cF_length W [(1#32, 4#32), (4#32, 1#32)] 56 (by decide) (by decide))).mono fun e w' ⟨he, hb⟩ => ⟨he, (below_alloc _ _).trans (hb.mono (by simp))⟩)
  have HW := hid (fun (v : Value) (W : World) (hv : RdW W v [(5#32, 1, 2)]) => show Calls Tryz.prog 22 #[v, .slice (some ⟨W.heap.size, 0, none⟩) 1 1] (W.alloc (.cells #[.int .u32 5, .int .i64 1, .int .i64 2] 62)) fun e w' => e = .returned (.bool true) ∧ Below W.heap.size W w' from
    (wsame28_any [(5#32, 1, 2)] v _ _ (RdC.below hv (below_alloc _ _)) (RdC.lit cW_length W [(5#32, 1, 2)] 62 (by decide) (by decide))).mono fun e w' ⟨he, hb⟩ => ⟨he, (below_alloc _ _).trans (hb.mono (by simp))⟩)
  have D0 := hid (Below.refl w.heap.size w)
  clear hT
  go_enter Tryz.func10, Tryz.ntmps10
  go_wp2_with fail
  refine (EX.out _).mono ?_
  rintro e w1 ⟨av, rv, rs, rfl, hrd, hsh, hb1⟩
  obtain ⟨s1, s2, s3, rfl⟩ := ex8_shape hsh
  have K1 := hid (KA.out s1 s2 s3 av rv w1 hb1 hrd)
  have B1 := hid hb1
  clear hrd hsh hb1
  go_wp2_with fail
  refine K1.out.mono ?_
  rintro e w2 ⟨v2, rfl, hr2, hb2⟩
  have B2 := hid (B1.out.trans (hb2.mono B1.out.size))
  have R2 := hid hr2
  clear hr2 hb2 K1
  go_wp2_with fail
  refine (EX.out _).mono ?_
  rintro e w3 ⟨av3, rv3, rs, rfl, hrd, hsh, hb3⟩
  obtain ⟨q1, q2, q3, rfl⟩ := ex8_shape hsh
  have B3 := hid (B2.out.trans (hb3.mono B2.out.size))
  have K3 := hid (KE.out q1 q2 q3 av3 rv3 w3 B3.out hrd)
  replace R2 := hid (RdC.below R2.out hb3)
  clear hrd hsh hb3
  go_wp2_with fail
  refine K3.out.mono ?_
  rintro e w4 ⟨v4, rfl, hr4, hb4⟩
  have B4 := hid (B3.out.trans (hb4.mono B3.out.size))
  have R4 := hid hr4
  replace R2 := hid (RdC.below R2.out hb4)
  clear hr4 hb4 K3
  go_wp2_with fail
  refine (EX.out _).mono ?_
  rintro e w5 ⟨av5, rv5, rs, rfl, hrd, hsh, hb5⟩
  obtain ⟨p1, p2, p3, rfl⟩ := ex8_shape hsh
  have B5 := hid (B4.out.trans (hb5.mono B4.out.size))
  have K5 := hid (KF.out p1 p2 p3 av5 rv5 w5 B5.out hrd)
  replace R2 := hid (RdC.below R2.out hb5)
  replace R4 := hid (RdC.below R4.out hb5)
  clear hrd hsh hb5
  go_wp2_with fail
  refine K5.out.mono ?_
  rintro e w6 ⟨v6, rfl, hr6, hb6⟩
  have B6 := hid (B5.out.trans (hb6.mono B5.out.size))
  obtain ⟨ao6, cap6, rfl, -, -⟩ := hr6.split
  replace R2 := hid (RdC.below R2.out hb6)
  replace R4 := hid (RdC.below R4.out hb6)
  clear hr6 hb6 K5
  go_wp2_with fail
  refine (HF.out _ _ R2.out).mono ?_
  rintro e w7 ⟨rfl, hb7⟩
  have B7 := hid (B6.out.trans (hb7.mono B6.out.size))
  replace R4 := hid (RdC.below R4.out hb7)
  clear hb7 HF R2
  go_wp2_with fail
  refine (HW.out _ _ R4.out).mono ?_
  rintro e w8 ⟨rfl, hb8⟩
  have B8 := hid (B7.out.trans (hb8.mono B7.out.size))
  replace R4 := hid (RdC.below R4.out hb8)
  clear hb8 HW
  go_wp2_with fail
  refine (EX.out _).mono ?_
  rintro e w9 ⟨av9, rv9, rs, rfl, hrd, hsh, hb9⟩
  obtain ⟨t1, t2, t3, rfl⟩ := ex8_shape hsh
  have B9 := hid (B8.out.trans (hb9.mono B8.out.size))
  have K9 := hid (KC.out t1 t2 t3 av9 rv9 v4 w9 B9.out hrd (RdC.below R4.out hb9))
  clear hrd hsh hb9
  go_wp2_with fail
  refine K9.out.mono ?_
  rintro e w10 ⟨rfl, hb10⟩
  have BF := hid (B9.out.trans (hb10.mono B9.out.size))
  clear hb10 K9
  go_wp2_with fail
  go_ret
  exact ⟨rfl, BF.out⟩

end Go.Proofs.YthoidncbbcpnnaaGreatDoor
