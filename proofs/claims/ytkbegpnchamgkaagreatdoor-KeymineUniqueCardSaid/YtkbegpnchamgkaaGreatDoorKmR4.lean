/- The walk of the reference of chapter 29: Duplicates. -/
import Derived.Test.YtkbegpnchamgkaaGreatDoorGKm2
import Derived.Test.YtkbegpnchamgkaaGreatDoorAfter
import Derived.Test.YtkbegpnchamgkaaGreatDoorKmR3
namespace Go.Proofs.YtkbegpnchamgkaaGreatDoor
open Go.RowKit
set_option linter.unusedVariables false

theorem RdE.grown {α : Type} {f : α → Value} {w w' : World} {v : Value} {xs : List α} {o : Option Nat} (h : RdE f w v xs) (hg : w.grownBy w' o) (hf : FarV v o) : RdE f w' v xs := by
  obtain ⟨ao, cap, rfl, h1, h2, h3⟩ := h
  refine ⟨ao, cap, rfl, h1, h2, fun hp => ?_⟩
  obtain ⟨b, off, rfl, hlt, hc⟩ := h3 hp
  refine ⟨b, off, rfl, Nat.lt_of_lt_of_le hlt hg.size, fun j u hu => ?_⟩
  exact (hg.cell_far ⟨b, off + j, none⟩ hlt (fun e => hf _ _ _ rfl hp e.symm)).trans (hc j u hu)
theorem lK_at {rs : List Row3} {i : Nat} {r : Row3} (h : rs[i]? = some r) (s : S) : (lK rs s)[i]? = some (valTo r.2.2 s r.2.2.length, r.1) := by unfold lK; rw [List.getElem?_map, h]; rfl
theorem lK_length (rs : List Row3) (s : S) : (lK rs s).length = rs.length := by unfold lK; rw [List.length_map]
section
variable {κ : Type} [DecidableEq κ]
/-- No row before, of the first k, has the key. -/
def firB (L : List (κ × Int)) (K : κ) (i k : Nat) : Bool := decide (K ∉ (L.take (min k i)).map (·.1))
theorem firB_zero (L : List (κ × Int)) (K : κ) (i : Nat) : firB L K i 0 = true := by unfold firB; simp
theorem firB_end {L : List (κ × Int)} {K : κ} {i k : Nat} (h : i ≤ k) : firB L K i k = true ↔ K ∉ (L.take i).map (·.1) := by unfold firB; rw [Nat.min_eq_right h, decide_eq_true_iff]
theorem firB_late {L : List (κ × Int)} {K : κ} {i k : Nat} (h : i ≤ k) : firB L K i (k + 1) = firB L K i k := by unfold firB; rw [Nat.min_eq_right (by omega), Nat.min_eq_right h]
theorem firB_hit {L : List (κ × Int)} {K : κ} {i k : Nat} {x : Int} (h : k < i) (hx : L[k]? = some (K, x)) : firB L K i (k + 1) = false := by
  unfold firB
  rw [Nat.min_eq_left (by omega), take_next hx]
  simp
theorem firB_skip {L : List (κ × Int)} {K K' : κ} {i k : Nat} {x : Int} (hx : L[k]? = some (K', x)) (hne : K' ≠ K) : firB L K i (k + 1) = firB L K i k := by
  by_cases h : i ≤ k
  · exact firB_late h
  · unfold firB
    rw [Nat.min_eq_left (by omega), Nat.min_eq_left (by omega), take_next hx, List.map_append, decide_eq_decide]
    simp [Ne.symm hne]
end

attribute [local irreducible] Go.wpQuiet
set_option maxHeartbeats 3200000 in
set_option maxRecDepth 100000 in
theorem rkdup_any (t : T3) (av rv : Value) (s : S) (w : World) (ht : RdT w av rv t) (hk : tabE2 t = 0) :
    Calls Tryz.prog 14 #[.agg #[.string t.1, av, rv], .int .u32 (iv s)] w fun e w' => ∃ (v' : Value) (gs : List Gp), e = .returned v' ∧ RdG w' v' gs ∧ gs.map (·.2) = bigG (lK t.2.2 s) ∧ gs.length ≤ 200 ∧ Below w.heap.size w w' := by
  have hb0 := below_alloc w (.cells #[.string t.1, av, rv] 28)
  have C3 := hid (fun W h => cells3 (w := w) (a := .string t.1) (b := av) (c := rv) (t := 28) W h)
  have T0 := hid (ht.below hb0)
  obtain ⟨w0, hw0⟩ : ∃ w0 : World, w.alloc (.cells #[.string t.1, av, rv] 28) = w0 := ⟨_, rfl⟩
  rw [hw0] at hb0 C3 T0
  have B0 := hid hb0
  have W0 := hid hw0
  have hsz0 := hb0.size
  clear hb0 hw0
  obtain ⟨h16, h200, hrows⟩ := tabE2_ok hk
  obtain ⟨nm, ats, rs⟩ := t
  replace h16 : ats.length ≤ 16 := h16
  replace h200 : rs.length ≤ 200 := h200
  have HR := hid (show ∀ r ∈ rs, r.2.2.length = ats.length ∧ ∀ x ∈ r.2.2, x.2.2.size ≤ 200 from hrows)
  obtain ⟨ro, rcap, rfl, hrl, hrc⟩ := RdR.split T0.out.2
  have RC := hid hrc
  have RAG := hid (fun (i j : Int) (xs ys : List V3) (u v : Value) (s : S) (W : World) (hu : RdV W u xs) (hv : RdV W v ys) (hl : ys.length = xs.length) (h32 : xs.length ≤ 32) (hs : ∀ x ∈ xs, x.2.2.size ≤ 200) => ragree_any i j xs ys u v s W hu hv hl h32 hs)
  have LA := hid (fun (i : Nat) (r : Row3) (h : rs[i]? = some r) => lK_at h s)
  have LL := hid (lK_length rs s)
  show Calls _ _ _ _ fun e w' => ∃ (v' : Value) (gs : List Gp), e = .returned v' ∧ RdG w' v' gs ∧ gs.map (·.2) = bigG (lK rs s) ∧ gs.length ≤ 200 ∧ Below w.heap.size w w'
  obtain ⟨L, hL⟩ : ∃ L, lK rs s = L := ⟨_, rfl⟩
  rw [hL] at LL
  rw [hL]
  have LA2 : Hid (∀ (i : Nat) (r : Row3), rs[i]? = some r → L[i]? = some (valTo r.2.2 s r.2.2.length, r.1)) := hid (by rw [← hL]; exact LA.out)
  obtain ⟨t00, t01, t02⟩ := C3.out _ (Below.refl _ _)
  clear hk ht hrows hrc LA hL
  go_enter Tryz.func14, Tryz.ntmps14
  go_wp2_with fail
  rw [W0.out]
  go_wp2_with fail
  go_loopw [5, 6] (fun u i wr => ∃ (k : Nat) (gs : List Gp), k ≤ rs.length ∧ i = .int .i64 k ∧ wr.ownsRow w0.heap.size 66 1 u gs.length (gs.map Prod.fst) ∧ Hid (∀ g ∈ gs, RdE encJ wr g.1 g.2 ∧ FarV g.1 u.ownBlock) ∧ Hid (gs.map (·.2) = refG L k) ∧ gs.length ≤ k ∧ Below w0.heap.size w0 wr) (fun _ i _ => rs.length - (intOf i).toNat)
  case atStart => exact ⟨0, [], Nat.zero_le _, rfl, World.ownsRow_nil _ _ _ _, hid (fun _ h => absurd h (by simp)), hid (by unfold refG; rw [List.take_zero]; rfl), Nat.le_refl _, Below.refl _ _⟩
  case round =>
    obtain ⟨wo, rfl⟩ : ∃ wo : World, wo = wr := ⟨_, rfl⟩
    obtain ⟨i, gs, hk, rfl, hown, HGS, HG, hgl, hnx⟩ := hrel
    have hsz := hnx.size
    have i0 : (0 : Int) ≤ (i : Int) := by omega
    obtain ⟨e0, e1, e2⟩ := C3.out _ hnx
    by_cases hlt : i < rs.length
    · obtain ⟨⟨rid, ru, rvs⟩, hr⟩ := get_some hlt
      have i1 : (i : Int) < (rs.length : Int) := by omega
      obtain ⟨⟨b, off, rfl, hd⟩, hvs⟩ := RC.out i _ hr
      have HLT := hid hlt
      have HR1 := hid (HR.out _ (List.mem_of_getElem? hr))
      have LI := hid (show L[i]? = some (valTo rvs s rvs.length, rid) from LA2.out i _ hr)
      have AGE := hid (fun (ys : List V3) => agB_eq (xs := rvs) (ys := ys) rfl s)
      have HVS := hid (fun (W : World) (h : Below w0.heap.size w0 W) => show RdV W ru rvs from hvs W h)
      have HDI := hid hd
      have HO := hid hown
      have NX := hid hnx
      have HGL := hid hgl
      obtain ⟨K, hK⟩ : ∃ K, valTo rvs s rvs.length = K := ⟨_, rfl⟩
      rw [hK] at LI AGE
      clear hvs hd hr hown hlt hgl hK
      go_wp2_with fail
      go_loopw [7, 8, 9] (fun g f j wr => ∃ k : Nat, k ≤ rs.length ∧ j = .int .i64 k ∧ wr.ownsRow wo.heap.size 2 1 g (idsOf (L.take k) K).length ((idsOf (L.take k) K).map encJ) ∧ f = .bool (firB L K i k) ∧ Below wo.heap.size wo wr) (fun _ _ j _ => rs.length - (intOf j).toNat)
      case atStart => exact ⟨0, Nat.zero_le _, rfl, by rw [List.take_zero]; exact World.ownsRow_nil _ _ _ _, by rw [firB_zero], Below.refl _ _⟩
      case round =>
        obtain ⟨k, hk2, rfl, hog, rfl, hnk⟩ := hrel
        have hszk := hnk.size
        have k0 : (0 : Int) ≤ (k : Int) := by omega
        have hkn := hnx.trans (hnk.mono hsz)
        have HKN := hid hkn
        obtain ⟨e0', e1', e2'⟩ := C3.out _ hkn
        have HOG := hid hog
        have NK := hid hnk
        have HIL := hid (show (idsOf (L.take k) K).length ≤ 200 by have h1 := idsOf_length (L.take k) K; have h2 := List.length_take_le k L; omega)
        by_cases hlt2 : k < rs.length
        · obtain ⟨⟨qid, qu, qvs⟩, hq⟩ := get_some hlt2
          have k1 : (k : Int) < (rs.length : Int) := by omega
          obtain ⟨⟨b', off', hbb, hd'⟩, hvs'⟩ := RC.out k _ hq
          cases hbb
          have HLT2 := hid hlt2
          have HR2 := hid (HR.out _ (List.mem_of_getElem? hq))
          have LK := hid (show L[k]? = some (valTo qvs s qvs.length, qid) from LA2.out k _ hq)
          have CA := hid (fun z : After wr => Calls.after z (RAG.out rid qid rvs qvs ru qu s z.world (HVS.out _ (HKN.out.trans (z.below.mono HKN.out.size))) (show RdV z.world qu qvs from hvs' _ (HKN.out.trans (z.below.mono HKN.out.size))) (by rw [HR1.out.1, HR2.out.1]) (by rw [HR1.out.1]; show ats.length ≤ 32; omega) HR1.out.2))
          have AG := AGE.out qvs
          have hl2 : qvs.length = rvs.length := by rw [HR1.out.1, HR2.out.1]
          rw [← hl2] at AG
          obtain ⟨K', hK'⟩ : ∃ K', valTo qvs s qvs.length = K' := ⟨_, rfl⟩
          rw [hK'] at LK AG
          have TN := hid (take_next LK.out)
          obtain ⟨f0, f1⟩ := HDI.out wr hkn
          obtain ⟨g0, g1⟩ := hd' wr hkn
          have m0 : ∀ z : After wr, z.world.cell? ⟨w.heap.size, 0, none⟩ = some (.string nm) := fun z => After.cell e0' z
          have m1 : ∀ z : After wr, z.world.cell? ⟨w.heap.size, 1, none⟩ = some av := fun z => After.cell e1' z
          have m2 : ∀ z : After wr, z.world.cell? ⟨w.heap.size, 2, none⟩ = some (.slice (some ⟨b, off, none⟩) rs.length rcap) := fun z => After.cell e2' z
          have p0 : ∀ z : After wr, z.world.cell? ⟨b, off + i * 2, none⟩ = some (.int .i64 rid) := fun z => After.cell f0 z
          have p1 : ∀ z : After wr, z.world.cell? ⟨b, off + i * 2 + 1, none⟩ = some ru := fun z => After.cell f1 z
          have r0 : ∀ z : After wr, z.world.cell? ⟨b, off + k * 2, none⟩ = some (.int .i64 qid) := fun z => After.cell g0 z
          have r1 : ∀ z : After wr, z.world.cell? ⟨b, off + k * 2 + 1, none⟩ = some qu := fun z => After.cell g1 z
          have HD2 := hid hd'
          obtain ⟨fb, hfb⟩ : ∃ fb, firB L K i k = fb := ⟨_, rfl⟩
          rw [hfb]
          cases hag : agB rvs qvs s with
          | false =>
            rw [hag] at CA
            have hne : K' ≠ K := fun e => by rw [AG.2 e.symm] at hag; cases hag
            have FN := hid (show firB L K i (k + 1) = fb by rw [firB_skip LK.out hne, hfb])
            have IN := hid (show idsOf (L.take (k + 1)) K = idsOf (L.take k) K by rw [TN.out, idsOf_snoc, if_neg hne])
            clear hag AG hq hvs' hd' hnk hog hkn hne hfb hl2 hK'
            go_wp2_with fail
            refine wp_region_after (by kernel_rfl) (by kernel_rfl) ?_
            repeat (any_goals (quiet_step (first | exact CA.out _)))
            refine wpQuiet_nil ?_
            intro wq hbq
            have NQ := hid (NK.out.trans (hbq.mono NK.out.size))
            have OQ := hid (own_below HOG.out hbq)
            clear hbq m0 m1 m2 p0 p1 r0 r1 CA
            go_wp2_with fail
            go_roundw
            case rel => exact ⟨k + 1, by have := HLT2.out; omega, by go_num, by rw [IN.out]; exact OQ.out, by rw [FN.out], NQ.out⟩
            case measure => have := HLT2.out; simp [intOf]; omega
          | true =>
            rw [hag] at CA
            have heq : K' = K := (AG.1 hag).symm
            subst heq
            have IN := hid (show idsOf (L.take (k + 1)) K' = idsOf (L.take k) K' ++ [qid] by rw [TN.out, idsOf_snoc, if_pos rfl])
            have FN := hid (show firB L K' i (k + 1) = (fb && decide ((k : Int) ≥ (i : Int))) by
              by_cases h : i ≤ k
              · rw [firB_late h, hfb, decide_eq_true (by omega), Bool.and_true]
              · rw [firB_hit (by omega) LK.out, decide_eq_false (by omega), Bool.and_false])
            generalize idsOf (L.take k) K' = ids at *
            clear hag AG hq hvs' hd' hnk hog hkn hfb hl2 hK'
            cases fb with
            | true =>
              go_wp2_with fail
              refine wp_region_after (by kernel_rfl) (by kernel_rfl) ?_
              repeat (any_goals (quiet_step (first | exact CA.out _)))
              refine wpQuiet_nil ?_
              intro wq hbq
              have NQ := hid (NK.out.trans (hbq.mono NK.out.size))
              have OQ := hid (own_below HOG.out hbq)
              obtain ⟨u0, u1, u2⟩ := C3.out _ (HKN.out.trans (hbq.mono HKN.out.size))
              obtain ⟨x0, x1⟩ := HD2.out wq (HKN.out.trans (hbq.mono HKN.out.size))
              replace x0 : wq.cell? ⟨b, off + k * 2, none⟩ = some (.int .i64 qid) := x0
              have SZQ := hid (show wo.heap.size ≤ wq.heap.size from NQ.out.size)
              clear hbq m0 m1 m2 p0 p1 r0 r1 CA x1
              go_wp2_with (at_builtin; refine wpList_pushE rfl _ _ 66 rfl wo.heap.size 2 (.int .i64 0) 8 undG64 info64 rfl (by decide) encJ _ ids rfl (OQ.out.alloc _) ⟨wq.heap.size, 0, none⟩ qid rfl rfl cell_new (by have := HIL.out; omega) (by have := SZQ.out; simp; omega) ?_)
              intro v5 w5 hown5 hg5 hl5
              have NX5 := hid (below_push NQ.out NQ.out.size OQ.out hg5)
              have OW5 := hid (show w5.ownsRow wo.heap.size 2 1 v5 (idsOf (L.take (k + 1)) K').length ((idsOf (L.take (k + 1)) K').map encJ) by rw [IN.out]; simpa using hown5)
              clear hown5 hg5 hl5
              go_wp2_with fail
              go_roundw
              case rel => exact ⟨k + 1, by have := HLT2.out; omega, by go_num, OW5.out, by rw [FN.out]; first | rfl | simp, NX5.out⟩
              case measure => have := HLT2.out; simp [intOf]; omega
            | false =>
              go_wp2_with fail
              refine wp_region_after (by kernel_rfl) (by kernel_rfl) ?_
              repeat (any_goals (quiet_step (first | exact CA.out _)))
              refine wpQuiet_nil ?_
              intro wq hbq
              have NQ := hid (NK.out.trans (hbq.mono NK.out.size))
              have OQ := hid (own_below HOG.out hbq)
              obtain ⟨u0, u1, u2⟩ := C3.out _ (HKN.out.trans (hbq.mono HKN.out.size))
              obtain ⟨x0, x1⟩ := HD2.out wq (HKN.out.trans (hbq.mono HKN.out.size))
              replace x0 : wq.cell? ⟨b, off + k * 2, none⟩ = some (.int .i64 qid) := x0
              have SZQ := hid (show wo.heap.size ≤ wq.heap.size from NQ.out.size)
              clear hbq m0 m1 m2 p0 p1 r0 r1 CA x1
              go_wp2_with (at_builtin; refine wpList_pushE rfl _ _ 66 rfl wo.heap.size 2 (.int .i64 0) 8 undG64 info64 rfl (by decide) encJ _ ids rfl (OQ.out.alloc _) ⟨wq.heap.size, 0, none⟩ qid rfl rfl cell_new (by have := HIL.out; omega) (by have := SZQ.out; simp; omega) ?_)
              intro v5 w5 hown5 hg5 hl5
              have NX5 := hid (below_push NQ.out NQ.out.size OQ.out hg5)
              have OW5 := hid (show w5.ownsRow wo.heap.size 2 1 v5 (idsOf (L.take (k + 1)) K').length ((idsOf (L.take (k + 1)) K').map encJ) by rw [IN.out]; simpa using hown5)
              clear hown5 hg5 hl5
              go_wp2_with fail
              go_roundw
              case rel => exact ⟨k + 1, by have := HLT2.out; omega, by go_num, OW5.out, by rw [FN.out]; first | rfl | simp, NX5.out⟩
              case measure => have := HLT2.out; simp [intOf]; omega
        · have hke : k = rs.length := by omega
          have ID := hid (show idsOf (L.take k) K = idsOf L K by rw [List.take_of_length_le (by rw [LL.out]; omega)])
          have FE := hid (firB_end (L := L) (K := K) (i := i) (k := k) (by have := HLT.out; omega))
          have RG := hid (refG_next LI.out)
          obtain ⟨fb, hfb⟩ : ∃ fb, firB L K i k = fb := ⟨_, rfl⟩
          rw [hfb]
          rw [hfb] at FE
          rw [ID.out] at HOG HIL
          generalize idsOf L K = ids at *
          obtain ⟨ao, acap, hge⟩ := own_sliceG HOG.out
          have OWK := hid (own_below HO.out NK.out)
          have HGK := hid (show ∀ g ∈ gs, RdE encJ wr g.1 g.2 ∧ FarV g.1 u5.ownBlock from fun g hg => ⟨(HGS.out g hg).1.below NK.out, (HGS.out g hg).2⟩)
          have U5 := hid (fun (j : Nat) (e : u5.ownBlock = some j) => (HO.out.lt j e).2)
          clear hog hfb hnk
          cases fb with
          | false =>
            rw [if_neg (fun h => by have := FE.out.2 h.1; cases this)] at RG
            have RG2 := hid RG.out
            clear FE RG hge
            go_wp2_with fail
            go_roundw
            case rel => exact ⟨i + 1, gs, by have := HLT.out; omega, by go_num, OWK.out, HGK, hid (by rw [RG2.out]; exact HG.out), by have := HGL.out; omega, HKN.out⟩
            case measure => have := HLT.out; simp [intOf]; omega
          | true =>
            have hmm := FE.out.1 rfl
            subst hge
            by_cases h2 : 2 ≤ ids.length
            · rw [if_pos ⟨hmm, h2⟩] at RG
              have RG2 := hid RG.out
              have hgt : decide ((ids.length : Int) > 1) = true := by rw [decide_eq_true_iff]; omega
              have HNN := hid (show gs.length ≤ 200 by have := HGL.out; have := HLT.out; omega)
              have SZ := hid (show w0.heap.size ≤ wr.heap.size from HKN.out.size)
              have SZO := hid (show wo.heap.size ≤ wr.heap.size from NK.out.size)
              have RI := hid (RdE.of_owns HOG.out (by have := HIL.out; omega))
              have FI := hid (show ∀ j, j < wo.heap.size → FarV (.slice ao ids.length acap) (some j) from fun j hj => far_own HOG.out hj)
              obtain ⟨il, hil⟩ : ∃ il, ids.length = il := ⟨_, rfl⟩
              rw [hil] at hgt RI FI
              rw [hil]
              clear hmm h2 FE RG hil
              go_wp2_with (at_builtin; refine wpList_pushE rfl _ _ 38 rfl w0.heap.size 66 (.slice none 0 0) 24 undGr infoGr rfl (by decide) (Prod.fst : Gp → Value) _ gs rfl (OWK.out.alloc _) ⟨wr.heap.size, 0, none⟩ ((.slice ao il acap, ids) : Gp) rfl rfl cell_new (by have := HNN.out; omega) (by have := SZ.out; simp; omega) ?_)
              intro v' w4 hown' hg4 hl4
              have hba := below_alloc wr (.cells #[.slice ao il acap] 66)
              have NX4 := hid (below_push HKN.out HKN.out.size OWK.out hg4)
              have OW4 := hid (show w4.ownsRow w0.heap.size 66 1 v' (gs ++ [((.slice ao il acap, ids) : Gp)]).length ((gs ++ [((.slice ao il acap, ids) : Gp)]).map Prod.fst) by simpa using hown')
              have HG4 := hid (show ∀ g ∈ gs ++ [((.slice ao il acap, ids) : Gp)], RdE encJ w4 g.1 g.2 ∧ FarV g.1 v'.ownBlock by
                have lift : ∀ (v : Value) (xs : List Int), RdE encJ wr v xs → FarV v u5.ownBlock → RdE encJ w4 v xs ∧ FarV v v'.ownBlock := by
                  intro v xs h1 h2
                  refine ⟨(h1.below hba).grown hg4 h2, ?_⟩
                  rcases hl4 with e | e
                  · rw [e]; exact h2
                  · rw [e]; intro a len cap e1 hl e2
                    obtain ⟨ao', cap', e3, -, -, h3⟩ := h1
                    rw [e3] at e1; cases e1
                    obtain ⟨b9, off9, e4, hlt9, -⟩ := h3 hl
                    cases e4; simp at e2; omega
                intro g hg
                rcases List.mem_append.1 hg with h | h
                · exact lift _ _ (HGK.out g h).1 (HGK.out g h).2
                · rw [List.mem_singleton] at h; subst h
                  refine lift _ _ RI.out ?_
                  cases ho : u5.ownBlock with
                  | none => intro a len cap _ _ e2; cases e2
                  | some j => exact FI.out j (U5.out j ho))
              have HM4 := hid (show (gs ++ [((.slice ao il acap, ids) : Gp)]).map (·.2) = refG L (i + 1) by rw [RG2.out, List.map_append, HG.out]; rfl)
              clear hown' hg4 hl4 hba
              go_wp2_with fail
              go_roundw
              case rel => exact ⟨i + 1, gs ++ [((.slice ao il acap, ids) : Gp)], by have := HLT.out; omega, by go_num, OW4.out, HG4, HM4, by rw [List.length_append, List.length_singleton]; have := HGL.out; omega, NX4.out⟩
              case measure => have := HLT.out; simp [intOf]; omega
            · rw [if_neg (fun h => h2 h.2)] at RG
              have RG2 := hid RG.out
              have hgt : decide ((ids.length : Int) > 1) = false := by rw [decide_eq_false_iff_not]; omega
              obtain ⟨il, hil⟩ : ∃ il, ids.length = il := ⟨_, rfl⟩
              rw [hil] at hgt
              rw [hil]
              clear hmm h2 FE RG hil
              go_wp2_with fail
              go_roundw
              case rel => exact ⟨i + 1, gs, by have := HLT.out; omega, by go_num, OWK.out, HGK, hid (by rw [RG2.out]; exact HG.out), by have := HGL.out; omega, HKN.out⟩
              case measure => have := HLT.out; simp [intOf]; omega
    · have hie : i = rs.length := by omega
      have HM := hid (show gs.map (·.2) = bigG L by rw [HG.out, hie, ← LL.out]; exact refG_all L)
      have RGG := hid (show RdG wo u5 gs from ⟨RdE.of_owns hown (by omega), fun g hg => (HGS.out g hg).1⟩)
      have BF := hid (B0.out.trans (hnx.mono hsz0))
      have HL := hid (show gs.length ≤ 200 by omega)
      clear hown hnx hie
      go_wp2_with fail
      go_ret
      exact ⟨_, _, rfl, RGG.out, HM.out, HL.out, BF.out⟩

end Go.Proofs.YtkbegpnchamgkaaGreatDoor
