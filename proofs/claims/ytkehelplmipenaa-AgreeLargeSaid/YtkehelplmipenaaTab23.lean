/- The example of chapter 27: the walk of its law package's awake. -/
import Derived.Test.YtkehelplmipenaaTab22
namespace Go.Proofs.Ytkehelplmipenaa
open Go.RowKit

def exV (n : Int) : V3 := (1, n, ByteArray.mk #[])
def exT (s1 s2 s3 : Value) : T3 := (ByteArray.mk #[114], [ByteArray.mk #[97], ByteArray.mk #[98], ByteArray.mk #[99]], [(1, s1, [exV 5, exV 1, exV 0]), (2, s2, [exV 5, exV 2, exV 0]), (4, s3, [exV 7, exV 1, exV 0])])
theorem exV_ok (n : Int) : badV (exV n) = false := by
  unfold badV validV exV
  rw [ByteArray.toList_eq]
  rfl
theorem ex_name : nameB (ByteArray.mk #[114]) = true ∧ nameB (ByteArray.mk #[97]) = true ∧ nameB (ByteArray.mk #[98]) = true ∧ nameB (ByteArray.mk #[99]) = true := by
  unfold nameB
  simp only [ByteArray.toList_eq]
  decide +kernel
theorem ex_attrs (s1 s2 s3 : Value) : attrsBad (exT s1 s2 s3).2.1 = false := by
  obtain ⟨h1, h2, h3, h4⟩ := ex_name
  show attrsBad [ByteArray.mk #[97], ByteArray.mk #[98], ByteArray.mk #[99]] = false
  unfold attrsBad attrBad
  simp [List.range, List.range.loop, h2, h3, h4, eqT, ByteArray.toList_eq]
theorem ex_tab (s1 s2 s3 : Value) : tabE2 (exT s1 s2 s3) = 0 := by
  have h1 : nameB (exT s1 s2 s3).1 = true := ex_name.1
  have h2 := ex_attrs s1 s2 s3
  have h3 : rowsE 0 (exT s1 s2 s3).2.1.length (exT s1 s2 s3).2.2 = 0 := by
    show rowsE 0 3 [(1, s1, [exV 5, exV 1, exV 0]), (2, s2, [exV 5, exV 2, exV 0]), (4, s3, [exV 7, exV 1, exV 0])] = 0
    simp [rowsE, exV_ok]
  have h4 : tabE (exT s1 s2 s3) = 0 := by
    unfold tabE
    rw [h1, h2, h3]
    rfl
  unfold tabE2
  rw [h4]
  rfl
theorem ex_eqV (m n : Int) : eqV (exV m) (exV n) = decide (m = n) := by
  unfold eqV exV eqT; simp
theorem ord_lit {a b : List S} (h1 : b.Pairwise (fun x y => cmpS x y < 0)) (h2 : b.Perm a) : ordS a = b := (ordS_of (p := (· ∈ b)) ⟨h1, fun _ => Iff.rfl⟩ fun _ => h2.mem_iff).symm
theorem ex_pairs (s1 s2 s3 : Value) : pairsS (exT s1 s2 s3).2.2 = [5#32, 6#32, 4#32] := by
  show [rowsS [exV 5, exV 1, exV 0] [exV 5, exV 2, exV 0] 3, rowsS [exV 5, exV 1, exV 0] [exV 7, exV 1, exV 0] 3, rowsS [exV 5, exV 2, exV 0] [exV 7, exV 1, exV 0] 3] = _
  simp [rowsS, ex_eqV]
theorem ex_sets (s1 s2 s3 : Value) : setsL (exT s1 s2 s3) = [(4#32, 1), (5#32, 1), (6#32, 1)] := by
  unfold setsL
  rw [if_pos (ex_tab _ _ _), ex_pairs]
  unfold cntL
  rw [ord_lit (b := [4#32, 5#32, 6#32]) (by decide +kernel) (by decide)]
  decide +kernel
theorem ex_arity (s1 s2 s3 : Value) : arityE (exT s1 s2 s3) 0 = 0 := by
  unfold arityE
  rw [if_neg (by rw [ex_tab]; simp)]
  rfl
theorem ex_max (s1 s2 s3 : Value) : maxL (exT s1 s2 s3) 0 = [6#32] := by
  unfold maxL
  rw [if_pos (ex_arity _ _ _), ex_pairs, show withoutS [5#32, 6#32, 4#32] (Int.toNat 0) = [6#32, 4#32] by decide]
  unfold keepS
  rw [ord_lit (b := [4#32, 6#32]) (by decide +kernel) (by decide)]
  decide +kernel
theorem ex_dif (s1 s2 s3 : Value) : difL (exT s1 s2 s3) 0 = [0#32] := by
  unfold difL
  rw [if_pos (ex_arity _ _ _), ex_pairs, show (exT s1 s2 s3).2.1.length = 3 from rfl, show diffL 3 (Int.toNat 0) [5#32, 6#32, 4#32] = [0#32, 2#32] by decide +kernel]
  unfold keepS
  rw [ord_lit (b := [0#32, 2#32]) (by decide +kernel) (by decide)]
  decide +kernel
theorem ex_wit (s1 s2 s3 : Value) : witE (exT s1 s2 s3) 6#32 = some (1, 4) := by
  unfold witE
  rw [if_pos (ex_tab _ _ _)]
  have h1 : rowsS [exV 5, exV 1, exV 0] [exV 5, exV 2, exV 0] 3 = 5#32 := by simp [rowsS, ex_eqV]
  have h2 : rowsS [exV 5, exV 1, exV 0] [exV 7, exV 1, exV 0] 3 = 6#32 := by simp [rowsS, ex_eqV]
  show witIn (1, s1, [exV 5, exV 1, exV 0]) 6#32 [(2, s2, [exV 5, exV 2, exV 0]), (4, s3, [exV 7, exV 1, exV 0])] _ = _
  simp only [witIn, pairS]
  show (if rowsS [exV 5, exV 1, exV 0] [exV 5, exV 2, exV 0] 3 == 6#32 then _ else if rowsS [exV 5, exV 1, exV 0] [exV 7, exV 1, exV 0] 3 == 6#32 then _ else _) = _
  rw [h1, h2]
  rfl

theorem awake1_any (n : Int) (w : World) : Calls Try.prog 37 #[.int .i64 n] w fun e w' => e = .returned (.agg #[.int .i64 1, .int .i64 n, .string (ByteArray.mk #[])]) ∧ Below w.heap.size w w' := by
  have hb := below_alloc w (.cells #[.int .i64 1, .int .i64 n, .string (ByteArray.mk #[])] 64)
  have c := cells3 (w := w) (a := .int .i64 1) (b := .int .i64 n) (c := .string (ByteArray.mk #[])) (t := 64) _ (Below.refl _ _)
  go_enter Try.func37, Try.ntmps37
  go_wp2_with fail
  obtain ⟨w1, hw1⟩ : ∃ w1 : World, w.alloc (.cells #[.int .i64 1, .int .i64 n, .string (ByteArray.mk #[])] 64) = w1 := ⟨_, rfl⟩
  rw [hw1] at hb c ⊢
  exact bodyPost_ret (v := .agg #[.int .i64 1, .int .i64 n, .string (ByteArray.mk #[])]) (by simp [results, Try.results37, go_sem, c.1, c.2.1, c.2.2]) rfl ⟨rfl, hb⟩

set_option maxHeartbeats 1600000 in
set_option maxRecDepth 100000 in
theorem awake27_any (w : World) : Calls Try.prog 11 #[] w fun e w' => e = .returned (.bool true) ∧ Below w.heap.size w w' := by
  have eg : ∀ (args : Array Value) (w : World), (callFunc 37 args).run Try.prog w = .ok (.enter 37 args) w := enters _ _ _ Try.func37 (by kernel_rfl) rfl
  have V1 := hid (fun (n : Int) (W : World) => awake1_any n W)
  have ha : RdE encT (w.alloc (.cells #[.string (ByteArray.mk #[97]), .string (ByteArray.mk #[98]), .string (ByteArray.mk #[99])] 9)) (.slice (some ⟨w.heap.size, 0, none⟩) 3 3) [ByteArray.mk #[97], ByteArray.mk #[98], ByteArray.mk #[99]] := RdE.lit w [ByteArray.mk #[97], ByteArray.mk #[98], ByteArray.mk #[99]] 9 (by decide)
  have A := hid ha
  have B0 := hid (below_alloc w (.cells #[.string (ByteArray.mk #[97]), .string (ByteArray.mk #[98]), .string (ByteArray.mk #[99])] 9))
  clear ha
  go_enter Try.func11, Try.ntmps11
  go_wp2_with fail
  refine (V1.out 5 _).mono ?_
  rintro e w1 ⟨rfl, hb1⟩
  have B1 := hid (B0.out.trans (hb1.mono B0.out.size))
  replace A := hid (A.out.below hb1)
  clear hb1
  go_wp2_with fail
  refine (V1.out 1 _).mono ?_
  rintro e w2 ⟨rfl, hb2⟩
  have B2 := hid (B1.out.trans (hb2.mono B1.out.size))
  replace A := hid (A.out.below hb2)
  clear hb2
  go_wp2_with fail
  refine (V1.out 0 _).mono ?_
  rintro e w3 ⟨rfl, hb3⟩
  have B3 := hid (B2.out.trans (hb3.mono B2.out.size))
  replace A := hid (A.out.below hb3)
  clear hb3
  have hr1 : RdV (w3.alloc (.cells #[.int .i64 1, .int .i64 5, .string (ByteArray.mk #[]), .int .i64 1, .int .i64 1, .string (ByteArray.mk #[]), .int .i64 1, .int .i64 0, .string (ByteArray.mk #[])] 64)) (.slice (some ⟨w3.heap.size, 0, none⟩) 3 3) [exV 5, exV 1, exV 0] := RdC.lit cV_length w3 [exV 5, exV 1, exV 0] 64 (by decide) (by decide)
  have R1 := hid hr1
  have hba1 := below_alloc w3 (.cells #[.int .i64 1, .int .i64 5, .string (ByteArray.mk #[]), .int .i64 1, .int .i64 1, .string (ByteArray.mk #[]), .int .i64 1, .int .i64 0, .string (ByteArray.mk #[])] 64)
  replace B3 := hid (B3.out.trans (hba1.mono B3.out.size))
  replace A := hid (A.out.below hba1)
  clear hr1 hba1
  go_wp2_with fail
  refine (V1.out 5 _).mono ?_
  rintro e w4 ⟨rfl, hb4⟩
  have B4 := hid (B3.out.trans (hb4.mono B3.out.size))
  replace A := hid (A.out.below hb4)
  replace R1 := hid (R1.out.below hb4)
  clear hb4
  go_wp2_with fail
  refine (V1.out 2 _).mono ?_
  rintro e w5 ⟨rfl, hb5⟩
  have B5 := hid (B4.out.trans (hb5.mono B4.out.size))
  replace A := hid (A.out.below hb5)
  replace R1 := hid (R1.out.below hb5)
  clear hb5
  go_wp2_with fail
  refine (V1.out 0 _).mono ?_
  rintro e w6 ⟨rfl, hb6⟩
  have B6 := hid (B5.out.trans (hb6.mono B5.out.size))
  replace A := hid (A.out.below hb6)
  replace R1 := hid (R1.out.below hb6)
  clear hb6
  have hr2 : RdV (w6.alloc (.cells #[.int .i64 1, .int .i64 5, .string (ByteArray.mk #[]), .int .i64 1, .int .i64 2, .string (ByteArray.mk #[]), .int .i64 1, .int .i64 0, .string (ByteArray.mk #[])] 64)) (.slice (some ⟨w6.heap.size, 0, none⟩) 3 3) [exV 5, exV 2, exV 0] := RdC.lit cV_length w6 [exV 5, exV 2, exV 0] 64 (by decide) (by decide)
  have R2 := hid hr2
  have hba2 := below_alloc w6 (.cells #[.int .i64 1, .int .i64 5, .string (ByteArray.mk #[]), .int .i64 1, .int .i64 2, .string (ByteArray.mk #[]), .int .i64 1, .int .i64 0, .string (ByteArray.mk #[])] 64)
  replace B6 := hid (B6.out.trans (hba2.mono B6.out.size))
  replace A := hid (A.out.below hba2)
  replace R1 := hid (R1.out.below hba2)
  clear hr2 hba2
  go_wp2_with fail
  refine (V1.out 7 _).mono ?_
  rintro e w7 ⟨rfl, hb7⟩
  have B7 := hid (B6.out.trans (hb7.mono B6.out.size))
  replace A := hid (A.out.below hb7)
  replace R1 := hid (R1.out.below hb7)
  replace R2 := hid (R2.out.below hb7)
  clear hb7
  go_wp2_with fail
  refine (V1.out 1 _).mono ?_
  rintro e w8 ⟨rfl, hb8⟩
  have B8 := hid (B7.out.trans (hb8.mono B7.out.size))
  replace A := hid (A.out.below hb8)
  replace R1 := hid (R1.out.below hb8)
  replace R2 := hid (R2.out.below hb8)
  clear hb8
  go_wp2_with fail
  refine (V1.out 0 _).mono ?_
  rintro e w9 ⟨rfl, hb9⟩
  have B9 := hid (B8.out.trans (hb9.mono B8.out.size))
  replace A := hid (A.out.below hb9)
  replace R1 := hid (R1.out.below hb9)
  replace R2 := hid (R2.out.below hb9)
  clear hb9
  have hr3 : RdV (w9.alloc (.cells #[.int .i64 1, .int .i64 7, .string (ByteArray.mk #[]), .int .i64 1, .int .i64 1, .string (ByteArray.mk #[]), .int .i64 1, .int .i64 0, .string (ByteArray.mk #[])] 64)) (.slice (some ⟨w9.heap.size, 0, none⟩) 3 3) [exV 7, exV 1, exV 0] := RdC.lit cV_length w9 [exV 7, exV 1, exV 0] 64 (by decide) (by decide)
  have R3 := hid hr3
  have hba3 := below_alloc w9 (.cells #[.int .i64 1, .int .i64 7, .string (ByteArray.mk #[]), .int .i64 1, .int .i64 1, .string (ByteArray.mk #[]), .int .i64 1, .int .i64 0, .string (ByteArray.mk #[])] 64)
  replace B9 := hid (B9.out.trans (hba3.mono B9.out.size))
  replace A := hid (A.out.below hba3)
  replace R1 := hid (R1.out.below hba3)
  replace R2 := hid (R2.out.below hba3)
  clear hr3 hba3
  go_wp2_with fail
  obtain ⟨wa, hwa⟩ : ∃ wa : World, w9.alloc (.cells #[.int .i64 1, .int .i64 7, .string (ByteArray.mk #[]), .int .i64 1, .int .i64 1, .string (ByteArray.mk #[]), .int .i64 1, .int .i64 0, .string (ByteArray.mk #[])] 64) = wa := ⟨_, rfl⟩
  rw [hwa] at A R1 R2 R3 B9 ⊢
  have hsa : wa.heap.size = w9.heap.size + 1 := by rw [← hwa]; simp
  have hrw : RdC cR (wa.alloc (.cells #[.int .i64 1, .slice (some ⟨w3.heap.size, 0, none⟩) 3 3, .int .i64 2, .slice (some ⟨w6.heap.size, 0, none⟩) 3 3, .int .i64 4, .slice (some ⟨w9.heap.size, 0, none⟩) 3 3] 67)) (.slice (some ⟨w9.heap.size + 1, 0, none⟩) 3 3) (exT (.slice (some ⟨w3.heap.size, 0, none⟩) 3 3) (.slice (some ⟨w6.heap.size, 0, none⟩) 3 3) (.slice (some ⟨w9.heap.size, 0, none⟩) 3 3)).2.2 := by
    rw [← hsa]; exact RdC.lit cR_length wa (exT (.slice (some ⟨w3.heap.size, 0, none⟩) 3 3) (.slice (some ⟨w6.heap.size, 0, none⟩) 3 3) (.slice (some ⟨w9.heap.size, 0, none⟩) 3 3)).2.2 67 (show (3 : Nat) ≤ 1000 by decide) (by decide)
  have hbb := below_alloc wa (.cells #[.int .i64 1, .slice (some ⟨w3.heap.size, 0, none⟩) 3 3, .int .i64 2, .slice (some ⟨w6.heap.size, 0, none⟩) 3 3, .int .i64 4, .slice (some ⟨w9.heap.size, 0, none⟩) 3 3] 67)
  have hsb : (wa.alloc (.cells #[.int .i64 1, .slice (some ⟨w3.heap.size, 0, none⟩) 3 3, .int .i64 2, .slice (some ⟨w6.heap.size, 0, none⟩) 3 3, .int .i64 4, .slice (some ⟨w9.heap.size, 0, none⟩) 3 3] 67)).heap.size = w9.heap.size + 1 + 1 := by simp [hsa]
  obtain ⟨wb, hwb⟩ : ∃ wb : World, wa.alloc (.cells #[.int .i64 1, .slice (some ⟨w3.heap.size, 0, none⟩) 3 3, .int .i64 2, .slice (some ⟨w6.heap.size, 0, none⟩) 3 3, .int .i64 4, .slice (some ⟨w9.heap.size, 0, none⟩) 3 3] 67) = wb := ⟨_, rfl⟩
  rw [hwb] at hrw hbb hsb ⊢
  have hbc := below_alloc wb (.cells #[.string (ByteArray.mk #[114]), .slice (some ⟨w.heap.size, 0, none⟩) 3 3, .slice (some ⟨w9.heap.size + 1, 0, none⟩) 3 3] 25)
  have C3 := hid (fun W h => cells3 (w := wb) (a := .string (ByteArray.mk #[114])) (b := .slice (some ⟨w.heap.size, 0, none⟩) 3 3) (c := .slice (some ⟨w9.heap.size + 1, 0, none⟩) 3 3) (t := 25) W h)
  rw [hsb] at C3
  have hT : RdT wb (.slice (some ⟨w.heap.size, 0, none⟩) 3 3) (.slice (some ⟨w9.heap.size + 1, 0, none⟩) 3 3) (exT (.slice (some ⟨w3.heap.size, 0, none⟩) 3 3) (.slice (some ⟨w6.heap.size, 0, none⟩) 3 3) (.slice (some ⟨w9.heap.size, 0, none⟩) 3 3)) := ⟨A.out.below hbb, hrw, fun r hr => by
    simp only [exT, List.mem_cons, List.not_mem_nil, or_false] at hr
    rcases hr with rfl | rfl | rfl
    · exact RdC.below R1.out hbb
    · exact RdC.below R2.out hbb
    · exact RdC.below R3.out hbb⟩
  obtain ⟨wT, hwT⟩ : ∃ wT : World, wb.alloc (.cells #[.string (ByteArray.mk #[114]), .slice (some ⟨w.heap.size, 0, none⟩) 3 3, .slice (some ⟨w9.heap.size + 1, 0, none⟩) 3 3] 25) = wT := ⟨_, rfl⟩
  rw [hwT] at hbc C3 ⊢
  have T0 := hid (hT.below hbc)
  have B10 := hid (B9.out.trans ((hbb.trans (hbc.mono hbb.size)).mono B9.out.size))
  have hs10 := B10.out.size
  clear hT hbc hwT hwb hwa hrw hbb hsa hsb A R1 R2 R3 B9
  have TB := hid (fun (W : World) (h : Below wT.heap.size wT W) => T0.out.below h)
  have S1 := hid (fun (W : World) (h : Below wT.heap.size wT W) => asetsR _ _ _ W (TB.out W h))
  have S2 := hid (fun (W : World) (h : Below wT.heap.size wT W) => amaxR _ _ _ 0 W (TB.out W h))
  have S3 := hid (fun (W : World) (h : Below wT.heap.size wT W) => adiffR _ _ _ 0 W (TB.out W h))
  have S4 := hid (fun (W : World) (h : Below wT.heap.size wT W) => awitR _ _ _ 6#32 W (TB.out W h))
  rw [ex_sets, ex_tab] at S1
  rw [ex_max, ex_arity] at S2
  rw [ex_dif, ex_arity] at S3
  rw [ex_wit, show enc 6#32 = .int .u32 6 from rfl] at S4
  have E1 := hid (fun (W : World) (v : Value) (h : RdCt W v [(4#32, 1), (5#32, 1), (6#32, 1)]) => csame_lit [(4#32, 1), (5#32, 1), (6#32, 1)] v W (.cells #[.int .u32 4, .int .i64 1, .int .u32 5, .int .i64 1, .int .u32 6, .int .i64 1] 35) rfl 3 rfl (by decide) h)
  have E2 := hid (fun (W : World) (v : Value) (h : RdE enc W v [6#32]) => ssame_lit [6#32] v W (.cells #[.int .u32 6] 33) rfl 1 rfl (by decide) h)
  have E3 := hid (fun (W : World) (v : Value) (h : RdE enc W v [0#32]) => ssame_lit [0#32] v W (.cells #[.int .u32 0] 33) rfl 1 rfl (by decide) h)
  refine (S1.out _ (Below.refl _ _)).mono ?_
  rintro e w11 ⟨v11, rfl, hr11, hb11⟩
  have D11 := hid hb11
  have Q1 := hid hr11
  obtain ⟨c0, c1, c2⟩ := C3.out _ hb11
  clear hr11 hb11 T0
  go_wp2_with fail
  refine (S2.out _ D11.out).mono ?_
  rintro e w12 ⟨v12, rfl, hr12, hb12⟩
  have D12 := hid (D11.out.trans (hb12.mono D11.out.size))
  replace Q1 := hid (Q1.out.below hb12)
  have Q2 := hid hr12
  obtain ⟨d0, d1, d2⟩ := C3.out _ D12.out
  clear hr12 hb12 c0 c1 c2
  go_wp2_with fail
  refine (S3.out _ D12.out).mono ?_
  rintro e w13 ⟨v13, rfl, hr13, hb13⟩
  have D13 := hid (D12.out.trans (hb13.mono D12.out.size))
  replace Q1 := hid (Q1.out.below hb13)
  replace Q2 := hid (Q2.out.below hb13)
  have Q3 := hid hr13
  obtain ⟨e0, e1, e2⟩ := C3.out _ D13.out
  clear hr13 hb13 d0 d1 d2
  go_wp2_with fail
  refine (S4.out _ D13.out).mono ?_
  rintro e w14 ⟨he14, hb14⟩
  change e = .returned (.tuple #[.int .i64 1, .int .i64 4, .bool true]) at he14
  subst he14
  have D14 := hid (D13.out.trans (hb14.mono D13.out.size))
  replace Q1 := hid (Q1.out.below hb14)
  replace Q2 := hid (Q2.out.below hb14)
  replace Q3 := hid (Q3.out.below hb14)
  have B14 := hid (B10.out.trans (D14.out.mono hs10))
  clear hb14 e0 e1 e2 S1 S2 S3 S4
  go_wp2_with fail
  refine (E1.out _ _ Q1.out).mono ?_
  rintro e w15 ⟨rfl, hb15⟩
  have B15 := hid (B14.out.trans (hb15.mono B14.out.size))
  replace Q2 := hid (Q2.out.below hb15)
  replace Q3 := hid (Q3.out.below hb15)
  clear hb15
  go_wp2_with fail
  refine (E2.out _ _ Q2.out).mono ?_
  rintro e w16 ⟨rfl, hb16⟩
  have B16 := hid (B15.out.trans (hb16.mono B15.out.size))
  replace Q3 := hid (Q3.out.below hb16)
  clear hb16
  go_wp2_with fail
  refine (E3.out _ _ Q3.out).mono ?_
  rintro e w17 ⟨rfl, hb17⟩
  have B17 := hid (B16.out.trans (hb17.mono B16.out.size))
  clear hb17
  go_wp2_with fail
  go_ret
  exact ⟨rfl, B17.out⟩

end Go.Proofs.Ytkehelplmipenaa
