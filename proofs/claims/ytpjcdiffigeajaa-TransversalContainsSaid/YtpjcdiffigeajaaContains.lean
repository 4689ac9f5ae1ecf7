/- The law TransversalContains: each transversal contains a minimal one, and each member of a minimal one hits some edge alone. -/
import Derived.Test.YtpjcdiffigeajaaLaws07b
namespace Go.Proofs.Ytpjcdiffigeajaa
open Go.RowKit

/-- IndexFunc at a function value that may make memory and draw. -/
theorem indexFuncB (g : Nat) (cb : Array Value) (p : S → Bool) (xs : List S) (v : Value) (w : World) (hv : RdE enc w v xs)
    (eg : ∀ (args : Array Value) (w : World), (callFunc g args).run Try.prog w = .ok (.enter g args) w)
    (hg : ∀ (x : S) (W : World), Below w.heap.size w W → Calls Try.prog g (#[enc x] ++ cb) W fun e W' => e = .returned (.bool (p x)) ∧ Below W.heap.size W W') :
    Calls Try.prog 40 #[v, .func (.func g) #[] cb] w fun e w' => (∃ n : Int, e = .returned (.int .i64 n) ∧ decide (0 ≤ n) = xs.any p) ∧ Below w.heap.size w w' := by
  obtain ⟨ao, cap, rfl, h1, h2, h3⟩ := hv
  unfold enc at h3 hg
  have G := hid hg
  clear hg
  go_enter Try.func40, Try.ntmps40
  go_wp2_with fail
  go_loopw [5, 8] (fun _ i wr => ∃ k : Nat, k ≤ xs.length ∧ i = .int .i64 k ∧ Below w.heap.size w wr ∧ Hid ((xs.take k).any p = false)) (fun _ i _ => xs.length - (intOf i).toNat)
  case atStart => exact ⟨0, Nat.zero_le _, rfl, Below.refl _ _, hid rfl⟩
  case round =>
    obtain ⟨wo, rfl⟩ : ∃ wo : World, wo = wr := ⟨_, rfl⟩
    obtain ⟨k, hk, rfl, hnx, H⟩ := hrel
    by_cases hlt : k < xs.length
    · obtain ⟨b, off, rfl, hb, hc⟩ := h3 (by omega)
      obtain ⟨x, hx⟩ := get_some hlt
      have e1 := (hnx.cell (p := ⟨b, off + k, none⟩) hb).trans (hc k x hx)
      have C := hid (G.out x wo hnx)
      have X := hid hx
      have HN := hid hnx
      clear hx hc h3 hnx
      cases hp : p x with
      | true =>
        rw [hp] at C
        have P1 := hid hp
        clear hp
        go_wp2_with fail
        refine C.out.mono ?_
        rintro e w1 ⟨rfl, hb1⟩
        have B1 := hid (HN.out.trans (hb1.mono HN.out.size))
        clear hb1
        go_wp2_with fail
        go_ret
        exact ⟨⟨_, rfl, by rw [any_hit X.out P1.out]; simp⟩, B1.out⟩
      | false =>
        rw [hp] at C
        have P1 := hid hp
        clear hp
        go_wp2_with fail
        refine C.out.mono ?_
        rintro e w1 ⟨rfl, hb1⟩
        have B1 := hid (HN.out.trans (hb1.mono HN.out.size))
        clear hb1
        go_wp2_with fail
        go_roundw
        case rel => exact ⟨k + 1, by omega, by go_num, B1.out, hid (none_next X.out P1.out H.out)⟩
        case measure => simp [intOf]; omega
    · have HN := hid hnx
      clear hnx
      go_wp2_with fail
      go_ret
      exact ⟨⟨_, rfl, by rw [any_end H.out hlt]; rfl⟩, HN.out⟩
theorem containsFuncB (g : Nat) (cb : Array Value) (p : S → Bool) (xs : List S) (v : Value) (w : World) (hv : RdE enc w v xs)
    (eg : ∀ (args : Array Value) (w : World), (callFunc g args).run Try.prog w = .ok (.enter g args) w)
    (hg : ∀ (x : S) (W : World), Below w.heap.size w W → Calls Try.prog g (#[enc x] ++ cb) W fun e W' => e = .returned (.bool (p x)) ∧ Below W.heap.size W W') :
    Calls Try.prog 27 #[v, .func (.func g) #[] cb] w fun e w' => e = .returned (.bool (xs.any p)) ∧ Below w.heap.size w w' := by
  have G := hid (indexFuncB g cb p xs v w hv eg hg)
  clear hg eg
  obtain ⟨ao, cap, rfl, -⟩ := hv
  go_enter Try.func27, Try.ntmps27
  go_wp2_with fail
  refine G.out.mono ?_
  rintro e w' ⟨⟨n, rfl, hn⟩, hb⟩
  have N := hid hn
  have B := hid hb
  clear hn hb
  go_wp2_with fail
  go_ret
  exact ⟨ret_bool N.out, B.out⟩

theorem cont1_any (s : S) (b : Nat) (x : S) (w : World) (hc : w.cell? ⟨b, 0, none⟩ = some (enc s)) :
    Calls Try.prog 28 (#[enc x] ++ #[.pointer (some ⟨b, 0, none⟩)]) w fun e w' => e = .returned (.bool (x &&& ~~~ s == 0#32)) ∧ w = w' := by
  show Calls Try.prog 28 #[enc x, .pointer (some ⟨b, 0, none⟩)] w _
  unfold enc at hc ⊢
  go_enter Try.func28, Try.ntmps28
  go_wp2
  go_ret
  exact ⟨rfl, rfl⟩
theorem cont2_any (t : S) (i : Nat) (hi : i < 32) (b b2 : Nat) (x : S) (w : World) (hc : w.cell? ⟨b, 0, none⟩ = some (enc t)) (hc2 : w.cell? ⟨b2, 0, none⟩ = some (.int .i64 i)) :
    Calls Try.prog 29 (#[enc x] ++ #[.pointer (some ⟨b, 0, none⟩), .pointer (some ⟨b2, 0, none⟩)]) w fun e w' => e = .returned (.bool (x &&& t == bit i)) ∧ Below w.heap.size w w' := by
  show Calls Try.prog 29 #[enc x, .pointer (some ⟨b, 0, none⟩), .pointer (some ⟨b2, 0, none⟩)] w _
  unfold enc at hc ⊢
  go_enter Try.func29, Try.ntmps29
  go_wp2
  go_quiet (fail)
  go_wp2
  go_ret
  exact ⟨rfl, below_drewN _ _ _⟩

/-- Each member of a minimal transversal hits some edge alone. -/
theorem lone_edge {xs : List S} {t : S} {i : Nat} (h : minS xs t = true) (hi : i < 32) (ht : t.getLsbD i = true) : xs.any (fun x => x &&& t == bit i) = true := by
  obtain ⟨h1, h2⟩ := minS_iff.1 h
  have hn : hitsS xs (t &&& ~~~ bit i) = false := by
    cases hq : hitsS xs (t &&& ~~~ bit i) with
    | false => rfl
    | true =>
      have hsub : sub (t &&& ~~~ bit i) t := fun j hj h => by rw [andNot_bit t i j hj] at h; simp at h; exact h.1
      have h3 := congrArg (fun x : S => x.getLsbD i) (h2 _ hsub hq)
      simp only [andNot_bit t i i hi] at h3
      rw [ht] at h3; simp at h3
  unfold hitsS at hn
  rw [Bool.not_eq_false', List.any_eq_true] at hn
  obtain ⟨x, hx, hx0⟩ := hn
  have hx0 : x &&& (t &&& ~~~ bit i) = 0#32 := by simpa using hx0
  rw [List.any_eq_true]
  refine ⟨x, hx, ?_⟩
  rw [beq_iff_eq]
  have hxt := hits_iff.1 h1 x hx
  rw [and_zero_iff] at hx0
  have hone : ∀ j, j < 32 → x.getLsbD j = true → t.getLsbD j = true → j = i := fun j hj a b => by
    have := hx0 j hj a
    rw [andNot_bit t i j hj, b] at this
    simpa using this
  obtain ⟨j, hj, hb⟩ := ne_zero_bit hxt
  rw [BitVec.getLsbD_and] at hb
  simp at hb
  have := hone j hj hb.1 hb.2
  subst this
  apply bv_ext
  intro k hk
  rw [BitVec.getLsbD_and, bit_get j k hk]
  by_cases e : k = j
  · subst e; simp [hb.1, hb.2]
  · cases ha : x.getLsbD k <;> cases hb2 : t.getLsbD k <;> simp [e]
    exact e (hone k hk ha hb2)
theorem hits_inside {xs : List S} {s : S} : hitsS xs s = (allS xs).any (fun t => t &&& ~~~ s == 0#32) := by
  rw [Bool.eq_iff_iff, List.any_eq_true]
  constructor
  · intro h
    obtain ⟨t, ht, hts⟩ := min_in xs _ s (Nat.le_refl _) h
    exact ⟨t, ((allS_ord xs).2 t).2 ht, by rw [beq_iff_eq, andNot_zero_iff]; exact hts⟩
  · rintro ⟨t, ht, hts⟩
    rw [beq_iff_eq, andNot_zero_iff] at hts
    exact hits_mono (minS_iff.1 (((allS_ord xs).2 t).1 ht)).1 hts

set_option maxHeartbeats 1600000 in
theorem contains_law (n : Int) (a : Option Addr) (len cap : Nat) (s : S) (w : World) (h : Arg w a len cap) :
    Calls Try.prog 9 #[.int .i64 n, .slice a len cap, .int .u32 (iv s)] w fun e w' => e = .returned (.bool true) ∧ Below w.heap.size w w' := by
  have AW := hid awake_any
  have bx := below_alloc w (.cells #[.int .u32 (iv s)] 28)
  by_cases hf : n ≤ 8 ∧ len ≤ 12
  · obtain ⟨xs, hxl, hr0⟩ := h (by omega)
    have hr := hr0.below bx
    have hcb : (w.alloc (.cells #[.int .u32 (iv s)] 28)).cell? ⟨w.heap.size, 0, none⟩ = some (.int .u32 (iv s)) := cell_new
    have hcf : (w.alloc (.cells #[.int .u32 (iv s)] 28)).frozen? ⟨w.heap.size, 0, none⟩ = false := by simp
    have hbs : w.heap.size < (w.alloc (.cells #[.int .u32 (iv s)] 28)).heap.size := by simp
    generalize hw0 : w.alloc (.cells #[.int .u32 (iv s)] 28) = w0 at *
    have FY := hid (fun (W : World) (hb : Below w0.heap.size w0 W) => few_yes n xs _ W (hr.below hb) hf.1 (by omega))
    have A0 := hid (fun (W : World) (hb : Below w0.heap.size w0 W) => refValid_any n xs _ W (hr.below hb))
    have HW := hid hw0
    have BX := hid bx
    clear hw0
    by_cases hval : validS n xs = 0
    · have hvb := valid_bits hval
      have e3 : resS n xs = allS xs := by unfold resS; rw [if_pos hval]
      rw [hval] at A0
      obtain ⟨m, rfl⟩ := Int.eq_ofNat_of_zero_le hvb.1
      have hm8 : m ≤ 8 := by omega
      have A1 := hid (fun (W : World) (hb : Below w.heap.size w W) => allW m xs _ W (hr0.below hb))
      rw [hval, e3] at A1
      have A2 := hid (full_any m)
      have LO := hid (fun (t : S) (i : Nat) (ht : t ∈ allS xs) (hi : i < 32) (h : t.getLsbD i = true) => lone_edge (((allS_ord xs).2 t).1 ht) hi h)
      have HI := hid (fun (s : S) => hits_inside (xs := xs) (s := s))
      have RX := hid hr0
      have FC := hid hcf
      have CC := hid hcb
      have BS := hid hbs
      clear hr hxl h hf hval hr0 hcb hcf hbs bx e3 hvb
      generalize fullN (min (m : Int).toNat 32) = fu at *
      generalize allS xs = L at *
      unfold enc at A2
      have B0 := hid (Below.refl w0.heap.size w0)
      go_enter Try.func9, Try.ntmps9
      go_wp2_with fail
      rw [HW.out]
      refine (AW.out w0).mono ?_
      rintro e w1 ⟨rfl, hb1⟩
      have B1 := hid (B0.out.trans (hb1.mono B0.out.size))
      clear hb1
      go_wp2_with fail
      refine (FY.out _ B1.out).mono ?_
      rintro e w9 ⟨rfl, rfl⟩
      go_wp2_with fail
      refine (A0.out w1 B1.out).mono ?_
      rintro e w2 ⟨rfl, hb2⟩
      have B2 := hid (B1.out.trans (hb2.mono B1.out.size))
      clear hb2
      have hcell : w2.cell? ⟨w.heap.size, 0, none⟩ = some (.int .u32 (iv s)) := (B2.out.cell (p := ⟨w.heap.size, 0, none⟩) BS.out).trans CC.out
      have hfro : w2.frozen? ⟨w.heap.size, 0, none⟩ = false := (B2.out.frozen (p := ⟨w.heap.size, 0, none⟩) BS.out).trans FC.out
      have BW2 := hid (BX.out.trans (B2.out.mono BX.out.size))
      have SZ2 := hid (Nat.lt_of_lt_of_le BS.out B2.out.size)
      clear FY A0 HW BX CC FC BS B0 B1 B2
      go_wp2_with fail
      refine wp_region_still_tail 4 (by kernel_rfl) (by kernel_rfl) ?_
      simp only [List.take_succ_cons, List.take_zero, List.drop_succ_cons, List.drop_zero]
      repeat still_step
      still_call ((A2.out _).mono (fun _ _ h => ⟨h.1, h.2.symm⟩))
      repeat still_step
      refine wpStill_nil ?_
      have CC3 := hid (show ((w2.setCell ⟨w.heap.size, 0, none⟩ (.int .u32 (iv (s &&& fu)))).drew).cell? ⟨w.heap.size, 0, none⟩ = some (enc (s &&& fu)) from World.cell?_setCell_same w2 _ _ hcell)
      have BW3 := hid ((BW2.out.setCell (p := ⟨w.heap.size, 0, none⟩) (Nat.le_refl _) (.int .u32 (iv (s &&& fu)))).drew)
      have SZ3 := hid (show w.heap.size < ((w2.setCell ⟨w.heap.size, 0, none⟩ (.int .u32 (iv (s &&& fu)))).drew).heap.size from by simpa using SZ2.out)
      go_wp2_with fail
      clear hcell hfro BW2 SZ2 A2
      generalize (w2.setCell ⟨w.heap.size, 0, none⟩ (.int .u32 (iv (s &&& fu)))).drew = w3 at *
      generalize s &&& fu = s3 at *
      have R3 := hid (RX.out.below BW3.out)
      refine (A1.out _ BW3.out).mono ?_
      rintro e w4 ⟨v4, rfl, hown, hl, hb4⟩
      have hl4 := RdE.of_owns hown (by omega)
      have CC4 := (hb4.cell (p := ⟨w.heap.size, 0, none⟩) SZ3.out).trans CC3.out
      have IN := hid (containsFunc_any 28 #[.pointer (some ⟨w.heap.size, 0, none⟩)] (fun t => t &&& ~~~ s3 == 0#32) L v4 w4 hl4
        (enters _ _ _ Try.func28 (by kernel_rfl) rfl) (fun x => cont1_any s3 _ x w4 CC4))
      have R4 := hid (R3.out.below hb4)
      have BW4 := hid (BW3.out.trans (hb4.mono BW3.out.size))
      have SZ4 := hid (Nat.lt_of_lt_of_le SZ3.out hb4.size)
      have CC := hid CC4
      have HI3 := hid (HI.out s3)
      obtain ⟨lo, lcap, rfl, -, hl45, hl3⟩ := hl4
      clear hown hl hb4 CC4 A1 R3 BW3 SZ3 CC3 HI
      generalize (L.any fun t => t &&& ~~~ s3 == 0#32) = ins at *
      go_wp2_with fail
      refine IN.out.mono ?_
      rintro e w9 ⟨rfl, rfl⟩
      clear IN
      go_wp2_with fail
      go_loopw [46] (fun i wr => ∃ k : Nat, k ≤ L.length ∧ i = .int .i64 k ∧ Below w4.heap.size w4 wr) (fun i _ => L.length - (intOf i).toNat)
      case atStart => exact ⟨0, Nat.zero_le _, rfl, Below.refl _ _⟩
      case round =>
        obtain ⟨wo, rfl⟩ : ∃ wo : World, wo = wr := ⟨_, rfl⟩
        obtain ⟨k, hk, rfl, hnx⟩ := hrel
        by_cases hlt : k < L.length
        · obtain ⟨b, off, rfl, hb, hcl⟩ := hl3 (by omega)
          obtain ⟨t, ht⟩ := get_some hlt
          have e0 : wo.cell? ⟨b, off + k, none⟩ = some (.int .u32 (iv t)) := (hnx.cell (p := ⟨b, off + k, none⟩) hb).trans (hcl k t ht)
          have TL := hid (List.mem_of_getElem? ht)
          have hb5 := below_alloc wo (.cells #[.int .u32 (iv t)] 28)
          have hc5 : (wo.alloc (.cells #[.int .u32 (iv t)] 28)).cell? ⟨wo.heap.size, 0, none⟩ = some (enc t) := cell_new
          have hz5 : wo.heap.size < (wo.alloc (.cells #[.int .u32 (iv t)] 28)).heap.size := by simp
          have B5 := hid (hnx.trans (hb5.mono hnx.size))
          have C5 := hid hc5
          have Z5 := hid hz5
          clear ht hcl hl3 hnx hb5 hc5 hz5
          go_wp2_with fail
          generalize wo.alloc (.cells #[.int .u32 (iv t)] 28) = w5 at *
          go_loopw [51] (fun i wr => ∃ j : Nat, j ≤ m ∧ i = .int .i64 j ∧ Below w5.heap.size w5 wr) (fun i _ => m - (intOf i).toNat)
          case atStart => exact ⟨0, Nat.zero_le _, rfl, Below.refl _ _⟩
          case round =>
            obtain ⟨wi, rfl⟩ : ∃ wi : World, wi = wr := ⟨_, rfl⟩
            obtain ⟨j, hj, rfl, hni⟩ := hrel
            by_cases hlj : j < m
            · have hb6 := below_alloc wi (.cells #[.int .i64 j] 3)
              have hc6 : (wi.alloc (.cells #[.int .i64 j] 3)).cell? ⟨wi.heap.size, 0, none⟩ = some (.int .i64 j) := cell_new
              have hz6 : wi.heap.size < (wi.alloc (.cells #[.int .i64 j] 3)).heap.size := by simp
              have B6 := hid (hni.trans (hb6.mono hni.size))
              have C6 := hid hc6
              have Z6 := hid hz6
              have R6 := hid (R4.out.below (B5.out.trans (B6.out.mono B5.out.size)))
              have T6 := hid ((B6.out.cell (p := ⟨wo.heap.size, 0, none⟩) Z5.out).trans C5.out)
              have U6 := hid (Nat.lt_of_lt_of_le Z5.out B6.out.size)
              clear hni hb6 hc6 hz6
              go_wp2_with fail
              generalize wi.alloc (.cells #[.int .i64 j] 3) = w6 at *
              refine (containsFuncB 29 #[.pointer (some ⟨wo.heap.size, 0, none⟩), .pointer (some ⟨wi.heap.size, 0, none⟩)] (fun x => x &&& t == bit j) xs _ w6 R6.out
                (enters _ _ _ Try.func29 (by kernel_rfl) rfl)
                (fun x W hb => cont2_any t j (by omega) _ _ x W ((hb.cell (p := ⟨wo.heap.size, 0, none⟩) U6.out).trans T6.out) ((hb.cell (p := ⟨wi.heap.size, 0, none⟩) Z6.out).trans C6.out))).mono ?_
              have LOj := hid (LO.out t j TL.out (by omega))
              have hbt := bit_and t j (by omega)
              generalize (xs.any fun x => x &&& t == bit j) = al at *
              rintro e w7 ⟨rfl, hb7⟩
              have t7 : w7.cell? ⟨wo.heap.size, 0, none⟩ = some (.int .u32 (iv t)) := (hb7.cell (p := ⟨wo.heap.size, 0, none⟩) U6.out).trans T6.out
              have i7 : w7.cell? ⟨wi.heap.size, 0, none⟩ = some (.int .i64 j) := (hb7.cell (p := ⟨wi.heap.size, 0, none⟩) Z6.out).trans C6.out
              have B7 := hid (B6.out.trans (hb7.mono B6.out.size))
              clear hb7 T6 C6 R6 B6 U6 Z6
              cases hq : t.getLsbD j with
              | true =>
                rw [hq] at hbt
                have hal : al = true := LOj.out hq
                subst hal
                clear hq
                go_wp2_with fail
                go_quiet (fail)
                go_wp2_with fail
                go_roundw
                case rel => exact ⟨j + 1, by omega, by go_num, B7.out.trans (below_drewN _ _ _)⟩
                case measure => simp [intOf]; omega
              | false =>
                rw [hq] at hbt
                clear hq
                go_wp2_with fail
                go_quiet (fail)
                go_wp2_with fail
                go_roundw
                case rel => exact ⟨j + 1, by omega, by go_num, B7.out.trans (below_drewN _ _ _)⟩
                case measure => simp [intOf]; omega
            · have BI := hid (B5.out.trans (hni.mono B5.out.size))
              clear hni
              go_wp2_with fail
              go_roundw
              case rel => exact ⟨k + 1, by omega, by go_num, BI.out⟩
              case measure => simp [intOf]; omega
        · have cc : wo.cell? ⟨w.heap.size, 0, none⟩ = some (.int .u32 (iv s3)) := (hnx.cell (p := ⟨w.heap.size, 0, none⟩) SZ4.out).trans CC.out
          have H := hid (hitsW xs s3 _ wo (R4.out.below hnx))
          rw [HI3.out] at H
          have BO := hid (BW4.out.trans (hnx.mono BW4.out.size))
          have ei : (ins == ins) = true := by simp
          unfold enc at H
          clear hnx
          go_wp2_with fail
          refine H.out.mono ?_
          rintro e w8 ⟨rfl, hb8⟩
          have B8 := hid (BO.out.trans (hb8.mono BO.out.size))
          clear hb8
          go_wp2_with fail
          go_ret
          exact ⟨ret_bool (by simp), B8.out⟩
    · have hne : (validS n xs != 0) = true := by simpa using hval
      clear hr hxl h hf hval hr0 hcb hcf hbs bx
      generalize validS n xs = r at *
      have B0 := hid (Below.refl w0.heap.size w0)
      go_enter Try.func9, Try.ntmps9
      go_wp2_with fail
      rw [HW.out]
      refine (AW.out w0).mono ?_
      rintro e w1 ⟨rfl, hb1⟩
      have B1 := hid (B0.out.trans (hb1.mono B0.out.size))
      clear hb1
      go_wp2_with fail
      refine (FY.out _ B1.out).mono ?_
      rintro e w9 ⟨rfl, rfl⟩
      go_wp2_with fail
      refine (A0.out w1 B1.out).mono ?_
      rintro e w2 ⟨rfl, hb2⟩
      have B2 := hid (B1.out.trans (hb2.mono B1.out.size))
      clear hb2
      go_wp2_with fail
      refine (AW.out w2).mono ?_
      rintro e w3 ⟨rfl, hb3⟩
      have B3 := hid (B2.out.trans (hb3.mono B2.out.size))
      clear hb3
      go_wp2_with fail
      go_ret
      exact ⟨rfl, BX.out.trans (B3.out.mono BX.out.size)⟩
  · clear h
    generalize hw0 : w.alloc (.cells #[.int .u32 (iv s)] 28) = w0 at *
    have HW := hid hw0
    have BX := hid bx
    clear hw0 bx
    have B0 := hid (Below.refl w0.heap.size w0)
    go_enter Try.func9, Try.ntmps9
    go_wp2_with fail
    rw [HW.out]
    refine (AW.out w0).mono ?_
    rintro e w1 ⟨rfl, hb1⟩
    have B1 := hid (B0.out.trans (hb1.mono B0.out.size))
    clear hb1
    go_wp2_with fail
    refine (few_no n a len cap _ hf).mono ?_
    rintro e w9 ⟨rfl, rfl⟩
    go_wp2_with fail
    refine (AW.out w1).mono ?_
    rintro e w2 ⟨rfl, hb2⟩
    have B2 := hid (B1.out.trans (hb2.mono B1.out.size))
    clear hb2
    go_wp2_with fail
    go_ret
    exact ⟨rfl, BX.out.trans (B2.out.mono BX.out.size)⟩

end Go.Proofs.Ytpjcdiffigeajaa
