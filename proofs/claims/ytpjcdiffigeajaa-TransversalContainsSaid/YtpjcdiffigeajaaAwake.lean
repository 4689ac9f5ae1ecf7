/- The walk of awake: the chapter's examples hold. -/
import Derived.Test.YtpjcdiffigeajaaDual
namespace Go.Proofs.Ytpjcdiffigeajaa
open Go.RowKit

/-- A list of sets that the text writes out. -/
theorem rd_lit (w : World) (l : List S) (t : TypeId) (h : l.length ≤ 1000) : RdE enc (w.alloc (.cells (l.map enc).toArray t)) (.slice (some ⟨w.heap.size, 0, none⟩) l.length l.length) l := by
  have := World.ownsRow_lit (size := 1) (e := t) (base := w.heap.size) w (l.map enc).toArray l.length (Nat.le_refl _) (by unfold maxLen; omega) (by simp)
  exact RdE.of_owns (by simpa using this) (by omega)

/-- What All gives can be checked set by set: n attributes, 2 ^ n sets. -/
theorem allS_check (xs ys : List S) (n N : Nat) (hN : 2 ^ n = N) (hv : ∀ x ∈ xs, ∀ i, i < 32 → n ≤ i → x.getLsbD i = false) (hy : ys.Pairwise bef)
    (hc : ∀ k, k < N → (minS xs (BitVec.ofNat 32 k) = true ↔ BitVec.ofNat 32 k ∈ ys)) (hb : ∀ y ∈ ys, y.toNat < N) : allS xs = ys := by
  subst hN
  refine (allS_ord xs).uniq (ys := ys) (q := fun s => s ∈ ys) ⟨hy, fun _ => Iff.rfl⟩ fun s => ?_
  have hs : BitVec.ofNat 32 s.toNat = s := by apply BitVec.eq_of_toNat_eq; simp
  constructor
  · intro h
    have := lt_of_bits (min_within h hv)
    have h2 := (hc s.toNat this).1 (by rw [hs]; exact h)
    rwa [hs] at h2
  · intro h
    have h2 := (hc s.toNat (hb s h)).2 (by rw [hs]; exact h)
    rwa [hs] at h2
theorem isMin_least (xs : List S) (s : S) : isMin xs s ↔ s ∈ xs.filter (least xs) := by
  unfold isMin; rw [List.mem_filter, least_iff]
theorem redS_check (xs ys : List S) (hy : ys.Pairwise bef) (hc : ∀ s, s ∈ xs.filter (least xs) ↔ s ∈ ys) : redS xs = ys :=
  (redS_ord xs).uniq (ys := ys) (q := fun s => s ∈ ys) ⟨hy, fun _ => Iff.rfl⟩ fun s => (isMin_least xs s).trans (hc s)

theorem iv_five : (iv 5#32 == 5) = true := by decide
theorem iv_ten : (iv 10#32 == 10) = true := by decide
theorem ex_valid : validS 4 [3#32, 6#32, 12#32] = 0 := by decide +kernel
theorem ex_all : allS [3#32, 6#32, 12#32] = [5#32, 6#32, 10#32] := by
  have h : ∀ k, k < 16 → (minS [3#32, 6#32, 12#32] (BitVec.ofNat 32 k) = true ↔ BitVec.ofNat 32 k ∈ [5#32, 6#32, 10#32]) := by decide +kernel
  have hv : ∀ x ∈ [3#32, 6#32, 12#32], ∀ i, i < 32 → 4 ≤ i → x.getLsbD i = false := fun x hx i hi h4 => (valid_bits ex_valid).2.2.2 x hx i hi h4
  have hp : [5#32, 6#32, 10#32].Pairwise bef := by decide +kernel
  have hb : ∀ y ∈ [5#32, 6#32, 10#32], y.toNat < 16 := by
    intro y hy
    simp only [List.mem_cons, List.not_mem_nil, or_false] at hy
    rcases hy with rfl | rfl | rfl <;> decide
  exact allS_check [3#32, 6#32, 12#32] [5#32, 6#32, 10#32] 4 16 (by decide) hv hp h hb
theorem ex_red : redS [7#32, 3#32, 12#32, 3#32] = [3#32, 12#32] := by
  refine redS_check _ _ (by decide +kernel) fun s => ?_
  have : [7#32, 3#32, 12#32, 3#32].filter (least [7#32, 3#32, 12#32, 3#32]) = [3#32, 12#32, 3#32] := by decide +kernel
  rw [this]
  simp only [List.mem_cons, List.not_mem_nil, or_false]
  constructor
  · rintro (h | h | h) <;> simp [h]
  · rintro (h | h) <;> simp [h]
theorem ex_res : resS 4 [3#32, 6#32, 12#32] = [5#32, 6#32, 10#32] := by unfold resS; rw [if_pos ex_valid, ex_all]
theorem ex_small : smallS 4 [3#32, 6#32, 12#32] = 5#32 := by unfold smallS; rw [ex_res]; rfl
theorem ex_smallE : smallE 4 [3#32, 6#32, 12#32] = 0 := by unfold smallE; rw [if_pos ex_valid, ex_res]; rfl
theorem ex_dual {d : S} {ok : Bool} (h : DualP 4 [3#32, 6#32, 12#32] [6#32, 5#32] d ok) : d = 10#32 ∧ ok = false := by
  unfold DualP at h
  rw [ex_valid, ex_all] at h
  rw [if_neg (by simp)] at h
  rcases h with ⟨_, _, h⟩ | ⟨rfl, h⟩
  · exact absurd ((h 10#32).2 (by decide)) (by decide)
  · refine ⟨?_, rfl⟩
    apply Classical.byContradiction
    intro hd
    apply h
    simp only [List.mem_cons, List.not_mem_nil, or_false]
    constructor
    · rintro (h | h | h)
      · exact .inr h
      · exact .inl h
      · exact absurd h hd
    · rintro (h | h)
      · exact .inr (.inl h)
      · exact .inl h

/-- Same, of a list that is read and one that the text writes out. -/
theorem same_lit (l : List S) (v : Value) (W : World) (o : Obj) (ho : o = .cells (l.map enc).toArray 28) (m : Nat) (hm : m = l.length) (hl : l.length ≤ 1000) (h : RdE enc W v l) :
    Calls Try.prog 18 #[v, .slice (some ⟨W.heap.size, 0, none⟩) m m] (W.alloc o) fun e w' => e = .returned (.bool true) ∧ Below W.heap.size W w' := by
  subst ho hm
  refine (same_any l l v _ _ (h.below (below_alloc _ _)) (rd_lit W l _ hl)).mono fun e w' ⟨he, q, hq⟩ => ⟨by rw [he]; simp, ?_⟩
  subst hq
  exact (below_alloc _ _).trans (below_drewN _ _ _)

set_option maxHeartbeats 1000000 in
theorem awake_any (w : World) : Calls Try.prog 11 #[] w fun e w' => e = .returned (.bool true) ∧ Below w.heap.size w w' := by
  have hr : RdE enc (w.alloc (.cells #[.int .u32 3, .int .u32 6, .int .u32 12] 28)) (.slice (some ⟨w.heap.size, 0, none⟩) 3 3) [3#32, 6#32, 12#32] := rd_lit w [3#32, 6#32, 12#32] 28 (by decide)
  have b0 := below_alloc w (.cells #[.int .u32 3, .int .u32 6, .int .u32 12] 28)
  generalize hw0 : w.alloc (.cells #[.int .u32 3, .int .u32 6, .int .u32 12] 28) = w0 at hr b0
  have A1 := hid (fun (W : World) (hb : Below w0.heap.size w0 W) => allW 4 [3#32, 6#32, 12#32] _ W (hr.below hb))
  have A2 := hid (fun (W : World) (hb : Below w0.heap.size w0 W) => smallest_any 4 [3#32, 6#32, 12#32] _ W (hr.below hb))
  have A3 := hid (fun (W : World) (hb : Below w0.heap.size w0 W) => dual_any 4 [3#32, 6#32, 12#32] [6#32, 5#32] _ _ (W.alloc (.cells #[.int .u32 6, .int .u32 5] 28)) ((hr.below hb).below (below_alloc _ _)) (rd_lit W [6#32, 5#32] 28 (by decide)))
  have A4 := hid (fun (W : World) (v : Value) (h : RdE enc W v [5#32, 6#32, 10#32]) => same_lit [5#32, 6#32, 10#32] v W (.cells #[.int .u32 5, .int .u32 6, .int .u32 10] 28) rfl 3 rfl (by decide) h)
  have A5 := hid (fun (W : World) => reduce_any [7#32, 3#32, 12#32, 3#32] _ (W.alloc (.cells #[.int .u32 7, .int .u32 3, .int .u32 12, .int .u32 3] 28)) (rd_lit W [7#32, 3#32, 12#32, 3#32] 28 (by decide)) (by decide))
  have A6 := hid (fun (W : World) (v : Value) (h : RdE enc W v [3#32, 12#32]) => same_lit [3#32, 12#32] v W (.cells #[.int .u32 3, .int .u32 12] 28) rfl 2 rfl (by decide) h)
  rw [ex_valid, ex_res] at A1
  rw [ex_small, ex_smallE] at A2
  rw [ex_red] at A5
  have HW := hid hw0
  have B0 := hid b0
  clear hw0 hr b0
  go_enter Try.func11, Try.ntmps11
  go_wp2_with fail
  rw [HW.out]
  refine (A1.out _ (Below.refl _ _)).mono ?_
  rintro e w1 ⟨v1, rfl, hown1, -, hb1⟩
  have R1 := hid (RdE.of_owns hown1 (by decide))
  have B1 := hid hb1
  clear hown1 hb1
  go_wp2_with fail
  refine (A2.out _ B1.out).mono ?_
  rintro e w2 ⟨rfl, hb2⟩
  have R2 := hid (R1.out.below hb2)
  have B2 := hid (B1.out.trans (hb2.mono B1.out.size))
  clear hb2
  go_wp2_with fail
  refine (A3.out _ B2.out).mono ?_
  rintro e w3 ⟨⟨d, ok, rfl, hd⟩, hb3⟩
  obtain ⟨rfl, rfl⟩ := ex_dual hd
  have hb3' : Below w2.heap.size w2 w3 := (below_alloc _ _).trans (hb3.mono (by simp))
  have R3 := hid (R2.out.below hb3')
  have B3 := hid (B2.out.trans (hb3'.mono B2.out.size))
  clear hb3 hb3' hd
  unfold enc
  go_wp2_with fail
  refine (A4.out _ _ R3.out).mono ?_
  rintro e w4 ⟨rfl, hb4⟩
  have B4 := hid (B3.out.trans (hb4.mono B3.out.size))
  clear hb4
  have e5 := iv_five
  have e10 := iv_ten
  go_wp2_with fail
  refine (A5.out w4).mono ?_
  rintro e w5 ⟨v5, rfl, hown5, hb5⟩
  have R5 := hid (RdE.of_owns hown5 (by decide))
  have hb5' : Below w4.heap.size w4 w5 := (below_alloc _ _).trans (hb5.mono (by simp))
  have B5 := hid (B4.out.trans (hb5'.mono B4.out.size))
  clear hown5 hb5 hb5'
  go_wp2_with fail
  refine (A6.out _ _ R5.out).mono ?_
  rintro e w6 ⟨rfl, hb6⟩
  have B6 := hid (B0.out.trans ((B5.out.trans (hb6.mono B5.out.size)).mono B0.out.size))
  clear hb6
  go_wp2_with fail
  go_ret
  exact ⟨rfl, B6.out⟩

end Go.Proofs.Ytpjcdiffigeajaa
