/- Texts that belong together, in one file. -/
import Derived.Test.YtcfcmalaabmceaaGreatDoorGFdmA
import Derived.Test.YtcfcmalaabmceaaGreatDoorGSmall
/- The walks of fdmine.All and agrees. -/
namespace Go.Proofs.YtcfcmalaabmceaaGreatDoor
open Go.RowKit Go.Shelf Go.Lib
set_option linter.unusedVariables false

theorem RdF.nil (w : World) : RdF w (.slice none 0 0) [] := RdC.of_owns (xs := []) cF_length (World.ownsRow_nil (w := w) 0 0 2) (by simp)


end Go.Proofs.YtcfcmalaabmceaaGreatDoor


/- The walk of fdmine.first. -/
namespace Go.Proofs.YtcfcmalaabmceaaGreatDoor
open Go.RowKit
set_option linter.unusedVariables false


attribute [local irreducible] Go.wpQuiet

end Go.Proofs.YtcfcmalaabmceaaGreatDoor


/- The walk of fdmine.Evidence. -/
namespace Go.Proofs.YtcfcmalaabmceaaGreatDoor
open Go.RowKit
set_option linter.unusedVariables false

theorem RdW.nil (w : World) : RdW w (.slice none 0 0) [] := RdC.of_owns (xs := []) cW_length (World.ownsRow_nil (w := w) 0 0 3) (by simp)


end Go.Proofs.YtcfcmalaabmceaaGreatDoor


/- The walk of partition.Holds. -/
namespace Go.Proofs.YtcfcmalaabmceaaGreatDoor
open Go.RowKit
set_option linter.unusedVariables false

theorem labR_getD {n i : Nat} (cls : List (List Int)) (h : i < n) : (labR n cls).getD i 0 = labP cls i := getD_at _ (labR_at h cls)
theorem refP_iff {κ κ' : Type} [DecidableEq κ] [DecidableEq κ'] {ks : List κ} {ks' : List κ'} (hl : ks'.length = ks.length) : refP (clsK ks) (labR ks.length (clsK ks')) = true ↔
    ∀ (i j : Nat) (a b : κ) (a' b' : κ'), ks[i]? = some a → ks[j]? = some b → ks'[i]? = some a' → ks'[j]? = some b' → a = b → a' = b' := by
  have inn : ∀ {c : List Int}, c ∈ clsK ks → ∃ k, (∀ x ∈ c, ∃ i : Nat, x = (i : Int) ∧ i < ks.length ∧ ks[i]? = some k) ∧ ∃ h : Nat, c.headD 0 = (h : Int) ∧ h < ks.length ∧ ks[h]? = some k := by
    intro c hc
    obtain ⟨k, _, rfl, h2⟩ := mem_cls.1 hc
    have key : ∀ x ∈ idsOf (ixL ks) k, ∃ i : Nat, x = (i : Int) ∧ i < ks.length ∧ ks[i]? = some k := by
      intro x hx
      obtain ⟨i, h1, rfl⟩ := mem_ids.1 hx
      exact ⟨i, rfl, (List.getElem?_eq_some_iff.1 h1).1, h1⟩
    refine ⟨k, key, ?_⟩
    cases hl : idsOf (ixL ks) k with
    | nil => rw [hl] at h2; simp at h2
    | cons x l => exact key x (by rw [hl]; simp)
  unfold refP
  rw [Bool.not_eq_true', List.any_eq_false]
  unfold refC
  constructor
  · intro h i j a b a' b' h1 h2 h3 h4 e
    subst e
    by_cases hij : i = j
    · subst hij; rw [h3] at h4; cases h4; rfl
    · have m1 : (i : Int) ∈ idsOf (ixL ks) a := mem_ids.2 ⟨i, h1, rfl⟩
      have m2 : (j : Int) ∈ idsOf (ixL ks) a := mem_ids.2 ⟨j, h2, rfl⟩
      have h2l : 2 ≤ (idsOf (ixL ks) a).length := by
        have := nodup_lenK (a := [(i : Int), (j : Int)]) (b := idsOf (ixL ks) a) (by simp; omega) (by intro s hs; simp at hs; rcases hs with rfl | rfl <;> assumption)
        simpa using this
      have hc := mem_cls.2 ⟨a, List.mem_of_getElem? h1, rfl, h2l⟩
      have hno := h _ hc
      rw [Bool.not_eq_true, List.any_eq_false] at hno
      obtain ⟨k, -, hd, hdk, hdl, -⟩ := inn hc
      have e1 := hno _ m1
      have e2 := hno _ m2
      rw [hdk, Int.toNat_natCast, Int.toNat_natCast, labR_getD _ (List.getElem?_eq_some_iff.1 h1).1, labR_getD _ hdl] at e1
      rw [hdk, Int.toNat_natCast, Int.toNat_natCast, labR_getD _ (List.getElem?_eq_some_iff.1 h2).1, labR_getD _ hdl] at e2
      have e3 : labP (clsK ks') i = labP (clsK ks') j := by
        have f1 : labP (clsK ks') i = labP (clsK ks') hd := by simpa using e1
        have f2 : labP (clsK ks') j = labP (clsK ks') hd := by simpa using e2
        rw [f1, f2]
      exact (lab_iff ks' h3 h4).1 e3
  · intro h c hc
    rw [Bool.not_eq_true, List.any_eq_false]
    obtain ⟨k, hk, hd, hdk, hdl, hdg⟩ := inn hc
    intro x hx
    obtain ⟨i, rfl, hil, hig⟩ := hk x hx
    obtain ⟨a', ha'⟩ := get_some (show i < ks'.length by omega)
    obtain ⟨b', hb'⟩ := get_some (show hd < ks'.length by omega)
    have e := h i hd k k a' b' hig hdg ha' hb' rfl
    subst e
    rw [hdk, Int.toNat_natCast, Int.toNat_natCast, labR_getD _ hil, labR_getD _ hdl, (lab_iff ks' ha' hb').2 rfl]
    simp
theorem refP_sat {m : Nat} {rs : List Row3} (h : FineR m rs) {f : F} (h1 : sub f.1 (fullN m)) (h2 : sub f.2 (fullN m)) :
    refP (clsK (keyOn rs f.1)) (labR rs.length (clsK (keyOn rs f.2))) = satB rs f := by
  have e := refP_iff (ks := keyOn rs f.1) (ks' := keyOn rs f.2) (by rw [keyOn_length, keyOn_length])
  rw [keyOn_length] at e
  rw [Bool.eq_iff_iff, e, ref_iff h h1 h2]
  unfold satB
  rw [List.all_eq_true]
  refine forall_congr' fun r => ?_
  refine forall_congr' fun hr => ?_
  rw [List.all_eq_true]
  refine forall_congr' fun q => ?_
  refine forall_congr' fun hq => ?_
  unfold satR
  have e1 := agB_sub (h.wid r hr) (h.wid q hq) h.le h1
  have e2 := agB_sub (h.wid r hr) (h.wid q hq) h.le h2
  rw [Bool.or_eq_true, Bool.not_eq_true', e2]
  cases hb : agB r.2.2 q.2.2 f.1 with
  | false =>
    simp only [true_or, iff_true]
    intro hx; rw [e1.2 hx] at hb; cases hb
  | true => simp only [Bool.true_eq_false, false_or]; exact ⟨fun x => x (e1.1 hb), fun x _ => x⟩

set_option maxHeartbeats 1600000 in
set_option maxRecDepth 100000 in
theorem pHolds_any (t : T3) (av rv : Value) (f : F) (w : World) (ht : RdT w av rv t) (hT : Tab w) (hE : tabE2 t = 0) (hok : okT t) (hs1 : sub f.1 (fullN t.2.1.length)) (hs2 : sub f.2 (fullN t.2.1.length)) :
    Calls Tryz.prog 12 #[.agg #[.string t.1, av, rv], .agg #[.int .u32 (iv f.1), .int .u32 (iv f.2)]] w fun e w' => e = .returned (.tuple #[.bool (satB t.2.2 f), .int .i64 0]) ∧ Below w.heap.size w w' := by
  have hb00 := below_alloc w (.cells #[.string t.1, av, rv] 35)
  have hb01 := below_alloc (w.alloc (.cells #[.string t.1, av, rv] 35)) (.cells #[.int .u32 (iv f.1), .int .u32 (iv f.2)] 49)
  have hb0 := hb00.trans (hb01.mono hb00.size)
  have C3 := hid (fun W (h : Below ((w.alloc (.cells #[.string t.1, av, rv] 35)).alloc (.cells #[.int .u32 (iv f.1), .int .u32 (iv f.2)] 49)).heap.size ((w.alloc (.cells #[.string t.1, av, rv] 35)).alloc (.cells #[.int .u32 (iv f.1), .int .u32 (iv f.2)] 49)) W) => cells3 (w := w) (a := .string t.1) (b := av) (c := rv) (t := 35) W (hb01.trans (h.mono hb01.size)))
  have F2 := hid (fun W h => cells2 (w := w.alloc (.cells #[.string t.1, av, rv] 35)) (a := .int .u32 (iv f.1)) (b := .int .u32 (iv f.2)) (t := 49) W h)
  rw [show (w.alloc (.cells #[.string t.1, av, rv] 35)).heap.size = w.heap.size + 1 by simp] at F2
  have T0 := hid (ht.below hb0)
  have HT0 := hid (hT.below hb0)
  obtain ⟨w0, hw0⟩ : ∃ w0 : World, (w.alloc (.cells #[.string t.1, av, rv] 35)).alloc (.cells #[.int .u32 (iv f.1), .int .u32 (iv f.2)] 49) = w0 := ⟨_, rfl⟩
  rw [hw0] at hb0 C3 T0 F2 HT0
  have B0 := hid hb0
  have W0 := hid hw0
  have hsz0 := hb0.size
  have E := hid (tabE2_tab hE)
  have TO := hid (tabE2_ok hE)
  have FI := fine_of hE hok
  have l2 := (tabE_len E.out).2
  have l1 := (tabE_len E.out).1
  have TV := hid (fun (W : World) (h : Below w0.heap.size w0 W) => tvalid_any t av rv W (T0.out.below h))
  rw [E.out] at TV
  have PW := hid (fun (W : World) (h : Below w0.heap.size w0 W) => pwithin_any t av rv (f.1 ||| f.2) W (T0.out.below h) l1)
  rw [(shrOk_sub (by omega)).2 (sub_or.2 ⟨hs1, hs2⟩)] at PW
  have PF := hid (fun (s : S) (hs : sub s (fullN t.2.1.length)) (W : World) (h : Below w0.heap.size w0 W) => pof_any t av rv s W (T0.out.below h) (HT0.out.below h) (sub_full_bits (by omega) hs) (by omega) l2 (fun r hr => (TO.out.2.2 r hr).1) hok)
  have P1 := hid (PF.out f.1 hs1)
  have P2 := hid (PF.out f.2 hs2)
  have okk := fun (s : S) => show okQ t.2.2.length (clsK (keyOn t.2.2 s)) by have := cls_okQ (ks := keyOn t.2.2 s) (by rw [keyOn_length]; exact l2); rwa [keyOn_length] at this
  have K1 := hid (okk f.1)
  have K2 := hid (okk f.2)
  have SAT := hid (refP_sat FI hs1 hs2)
  have RFN := hid (fun (gs hs : List Gp) (cv dv : Value) (W : World) (hv : RdG W cv gs) (hu : RdG W dv hs) (h1 : gs.map (·.2) = clsK (keyOn t.2.2 f.1)) (h2 : hs.map (·.2) = clsK (keyOn t.2.2 f.2)) => by
    have h := prefines_any t.2.2.length gs hs cv dv W hv hu (by rw [h1]; exact K1.out) (by rw [h2]; exact K2.out)
    rw [h1, h2, SAT.out] at h
    exact h)
  rw [show (fun r : Row3 => mkKS (kyB r.2.2 (memN f.1 32))) = fun r : Row3 => mkKS (kyB r.2.2 (memN f.1 32)) from rfl] at P1
  obtain ⟨A1, hA1⟩ : ∃ A1, clsK (keyOn t.2.2 f.1) = A1 := ⟨_, rfl⟩
  obtain ⟨A2, hA2⟩ : ∃ A2, clsK (keyOn t.2.2 f.2) = A2 := ⟨_, rfl⟩
  replace P1 := hid (fun (W : World) (h : Below w0.heap.size w0 W) => show Calls Tryz.prog 29 #[.agg #[.string t.1, av, rv], .int .u32 (iv f.1)] W fun e w' => ∃ (v' : Value) (gs : List Gp), e = .returned (.agg #[.int .i64 (t.2.2.length : Int), v']) ∧ RdG w' v' gs ∧ gs.map (·.2) = A1 ∧ FarG W.heap.size v' gs ∧ Below W.heap.size W w' by rw [← hA1]; exact P1.out W h)
  replace P2 := hid (fun (W : World) (h : Below w0.heap.size w0 W) => show Calls Tryz.prog 29 #[.agg #[.string t.1, av, rv], .int .u32 (iv f.2)] W fun e w' => ∃ (v' : Value) (gs : List Gp), e = .returned (.agg #[.int .i64 (t.2.2.length : Int), v']) ∧ RdG w' v' gs ∧ gs.map (·.2) = A2 ∧ FarG W.heap.size v' gs ∧ Below W.heap.size W w' by rw [← hA2]; exact P2.out W h)
  rw [hA1, hA2] at RFN
  generalize satB t.2.2 f = SB at *
  obtain ⟨nm, ats, rs⟩ := t
  simp only at TV PW P1 P2 RFN
  have HS := hid (fun (W : World) (h : Below w0.heap.size w0 W) => show Below w0.heap.size w0 W ∧ (W.cell? ⟨w.heap.size, 0, none⟩ = some (.string nm) ∧ W.cell? ⟨w.heap.size, 1, none⟩ = some av ∧ W.cell? ⟨w.heap.size, 2, none⟩ = some rv) ∧ (W.cell? ⟨w.heap.size + 1, 0, none⟩ = some (.int .u32 (iv f.1)) ∧ W.cell? ⟨w.heap.size + 1, 1, none⟩ = some (.int .u32 (iv f.2))) from ⟨h, C3.out W h, F2.out W h⟩)
  obtain ⟨c0, c1, c2⟩ := C3.out _ (Below.refl _ _)
  obtain ⟨d0, d1⟩ := F2.out _ (Below.refl _ _)
  clear ht hT hb00 hb01 hb0 hw0 hE hok hs1 hs2 l1 l2 FI okk SAT K1 K2 hA1 hA2 PF TO E
  go_enter Tryz.func12, Tryz.ntmps12
  go_wp2_with fail
  rw [W0.out]
  go_wp2_with fail
  refine (TV.out _ (Below.refl _ _)).mono ?_
  rintro e w1 ⟨rfl, hb1⟩
  have H1 := hid hb1
  clear hb1 c0 c1 c2 d0 d1
  obtain ⟨c0, c1, c2⟩ := C3.out _ H1.out
  obtain ⟨d0, d1⟩ := F2.out _ H1.out
  go_wp2_with fail
  refine (PW.out _ H1.out).mono ?_
  rintro e w2 ⟨rfl, hb2⟩
  have H2 := hid (H1.out.trans (hb2.mono H1.out.size))
  clear hb2 c0 c1 c2 d0 d1
  go_wp2_with fail
  go_region_held3 (fun W => Below w0.heap.size w0 W ∧ (W.cell? ⟨w.heap.size, 0, none⟩ = some (.string nm) ∧ W.cell? ⟨w.heap.size, 1, none⟩ = some av ∧ W.cell? ⟨w.heap.size, 2, none⟩ = some rv) ∧ (W.cell? ⟨w.heap.size + 1, 0, none⟩ = some (.int .u32 (iv f.1)) ∧ W.cell? ⟨w.heap.size + 1, 1, none⟩ = some (.int .u32 (iv f.2))))
    (first | exact HS.out _ (below_drewN' H2.out _) | exact HS.out _ H2.out.drew | exact HS.out _ H2.out | exact HS.out _ (by assumption))
    (first
      | (go_at_call 29; have hS := And.left ‹Below w0.heap.size w0 _ ∧ _ ∧ _›; with_reducible refine (P1.out _ hS).mono ?_; rintro e wa ⟨va, ga, rfl, hra, hma, -, hba⟩; have hLa := hS.trans (hba.mono hS.size); (first | (replace hrb := RdG.below hrb hba) | skip); clear hba hS)
      | (go_at_call 29; have hS := And.left ‹Below w0.heap.size w0 _ ∧ _ ∧ _›; with_reducible refine (P2.out _ hS).mono ?_; rintro e wb ⟨vb, gb, rfl, hrb, hmb, -, hbb⟩; have hLb := hS.trans (hbb.mono hS.size); (first | (replace hra := RdG.below hra hbb) | skip); clear hbb hS)
      | (go_at_call 28; have hS := And.left ‹Below w0.heap.size w0 _ ∧ _ ∧ _›; refine (RFN.out _ _ _ _ _ (by first | exact hra | exact RdG.below hra (Below.refl _ _).drew) (by first | exact hrb | exact RdG.below hrb (Below.refl _ _).drew) hma hmb).mono ?_; rintro e wc ⟨rfl, hbc⟩; have hLc := hS.trans (hbc.mono hS.size); clear hbc hS))
  all_goals
    have BQ := hid (B0.out.trans (hLc.mono hsz0))
    clear hLa hLb hLc hra hrb
    go_wp2_with fail
    go_ret2
    exact ⟨rfl, BQ.out⟩

end Go.Proofs.YtcfcmalaabmceaaGreatDoor


/- The walk of fdmine.witnessed. -/
namespace Go.Proofs.YtcfcmalaabmceaaGreatDoor
open Go.RowKit
set_option linter.unusedVariables false


attribute [local irreducible] Go.wpQuiet

end Go.Proofs.YtcfcmalaabmceaaGreatDoor


/- The walk of fdmine.Check. -/
namespace Go.Proofs.YtcfcmalaabmceaaGreatDoor
open Go.RowKit
set_option linter.unusedVariables false



attribute [local irreducible] Go.wpQuiet

end Go.Proofs.YtcfcmalaabmceaaGreatDoor

