/- The walk of drossref27.Pairs. -/
import Derived.Test.YtkehelplmipenaaGTabB
import Derived.Test.YtkehelplmipenaaAgrL
import Derived.Deep.RegionHeld3
namespace Go.Proofs.Ytkehelplmipenaa
open Go.RowKit Go.Shelf


set_option maxHeartbeats 1600000 in
set_option maxRecDepth 100000 in
theorem pairs_any (t : T3) (av rv : Value) (w : World) (ht : RdT w av rv t) (hk : tabE2 t = 0) :
    Calls Try.prog 42 #[.agg #[.string t.1, av, rv]] w fun e w' => ∃ v', e = .returned v' ∧ w'.ownsRow w.heap.size 33 1 v' (pairsS t.2.2).length ((pairsS t.2.2).map enc) ∧ Below w.heap.size w w' := by
  obtain ⟨nm, ats, rs⟩ := t
  obtain ⟨ha, hr⟩ := ht
  obtain ⟨h16, h200, hrows⟩ := tabE2_ok hk
  have HR := hid hrows
  have hG : (pairsS rs).length ≤ 40000 := Nat.le_trans (pairsS_length rs) (Nat.mul_le_mul h200 h200)
  have hb0 := below_alloc w (.cells #[.string nm, av, rv] 25)
  have C3 := hid (fun W h => cells3 (w := w) (a := .string nm) (b := av) (c := rv) (t := 25) W h)
  have R0 := hid (hr.below hb0)
  obtain ⟨w0, hw0⟩ : ∃ w0 : World, w.alloc (.cells #[.string nm, av, rv] 25) = w0 := ⟨_, rfl⟩
  rw [hw0] at hb0 R0 C3
  have B0 := hid hb0
  have W0 := hid hw0
  have hsz0 : w.heap.size ≤ w0.heap.size := hb0.size
  clear ha hr hb0 hw0 hk hrows
  have RA := hid (fun (i j : Int) (xs ys : List V3) (u v : Value) (W : World) (hu : RdV W u xs) (hv : RdV W v ys) (hl : ys.length = xs.length) (h32 : xs.length ≤ 32) (hs : ∀ x ∈ xs, x.2.2.size ≤ 200) => rows_any i j xs ys u v W hu hv hl h32 hs)
  obtain ⟨ro, rcap, rfl, hrl, hrc⟩ := RdR.split R0.out
  have RC := hid hrc
  clear hrc
  have PA := hid (fun (i : Nat) (r : Row3) (h : rs[i]? = some r) => pairsS_at h)
  have DA := hid (fun (i : Nat) (r : Row3) (h : rs[i]? = some r) => drop_at h)
  show Calls _ _ _ _ fun e w' => ∃ v', e = .returned v' ∧ w'.ownsRow w.heap.size 33 1 v' (pairsS rs).length ((pairsS rs).map enc) ∧ Below w.heap.size w w'
  obtain ⟨G, hGG⟩ : ∃ G : List S, pairsS rs = G := ⟨_, rfl⟩
  rw [hGG] at hG ⊢
  have GG := hid hGG
  clear hGG
  go_enter Try.func42, Try.ntmps42
  go_wp2_with fail
  rw [W0.out]
  go_wp2_with fail
  go_loopw [3, 4] (fun u i wr => ∃ (k : Nat) (ps : List S), k ≤ rs.length ∧ i = .int .i64 k ∧ wr.ownsRow w0.heap.size 33 1 u ps.length (ps.map enc) ∧ Hid (ps ++ pairsS (rs.drop k) = G) ∧ Below w0.heap.size w0 wr) (fun _ i _ => rs.length - (intOf i).toNat)
  case atStart => exact ⟨0, [], Nat.zero_le _, rfl, World.ownsRow_nil _ _ _ _, hid (by rw [← GG.out]; rfl), Below.refl _ _⟩
  case round =>
    obtain ⟨i, ps, hk, rfl, hown, HP, hnx⟩ := hrel
    have hsz := hnx.size
    obtain ⟨c0, c1, c2⟩ := C3.out _ hnx
    have i0 : (0 : Int) ≤ (i : Int) := by omega
    by_cases hlt : i < rs.length
    · obtain ⟨r, hr⟩ := get_some hlt
      have HR1 := hid (HR.out r (List.mem_of_getElem? hr))
      have HP2 := hid (show ps ++ ((rs.drop (i + 1)).map (pairS r) ++ pairsS (rs.drop (i + 1))) = G by rw [← PA.out i r hr]; exact HP.out)
      have RI := hid (RC.out i r hr)
      obtain ⟨wo, rfl⟩ : ∃ wo : World, wo = wr := ⟨_, rfl⟩
      clear hr
      go_wp2_with fail
      go_loopw [3, 5] (fun u j wr => ∃ (k : Nat) (qs : List S), i + 1 ≤ k ∧ k ≤ rs.length ∧ j = .int .i64 k ∧ wr.ownsRow w0.heap.size 33 1 u qs.length (qs.map enc) ∧ Hid (qs ++ ((rs.drop k).map (pairS r) ++ pairsS (rs.drop (i + 1))) = G) ∧ Below w0.heap.size w0 wr) (fun _ j _ => rs.length - (intOf j).toNat)
      case atStart => exact ⟨i + 1, ps, by omega, by omega, by go_num, hown, HP2, hnx⟩
      case round =>
        obtain ⟨k, qs, hk1, hk2, rfl, hown2, HQ, hnx2⟩ := hrel
        have hsz2 := hnx2.size
        obtain ⟨d0, d1, d2⟩ := C3.out _ hnx2
        have j0 : (0 : Int) ≤ (k : Int) := by omega
        by_cases hlt2 : k < rs.length
        · obtain ⟨q, hq⟩ := get_some hlt2
          have HR2 := hid (HR.out q (List.mem_of_getElem? hq))
          have HQ2 := hid (show (qs ++ [pairS r q]) ++ ((rs.drop (k + 1)).map (pairS r) ++ pairsS (rs.drop (i + 1))) = G by
            have h := HQ.out
            rw [DA.out k q hq] at h
            simpa using h)
          have hql : qs.length ≤ 40000 := by
            have h := congrArg List.length HQ2.out
            simp only [List.length_append] at h
            omega
          obtain ⟨⟨b, off, rfl, hd⟩, hvs⟩ := RI.out
          obtain ⟨⟨b', off', hbb, hd'⟩, hvs'⟩ := RC.out k q hq
          cases hbb
          have HS := hid (fun (W : World) (h : Below w0.heap.size w0 W) => show Below w0.heap.size w0 W ∧ W.cell? ⟨w.heap.size, 2, none⟩ = some (.slice (some ⟨b, off, none⟩) rs.length rcap) ∧ (W.cell? ⟨b, off + i * 2, none⟩ = some (.int .i64 r.1) ∧ W.cell? ⟨b, off + i * 2 + 1, none⟩ = some r.2.1) ∧ (W.cell? ⟨b, off + k * 2, none⟩ = some (.int .i64 q.1) ∧ W.cell? ⟨b, off + k * 2 + 1, none⟩ = some q.2.1) from
            ⟨h, (C3.out _ (h)).2.2, hd W (h), hd' W (h)⟩)
          have CR := hid (fun (W : World) (h : Below w0.heap.size w0 W) => RA.out r.1 q.1 r.2.2 q.2.2 r.2.1 q.2.1 W (hvs W (h)) (hvs' W (h)) (by rw [HR1.out.1, HR2.out.1]) (by rw [HR1.out.1]; exact Nat.le_trans h16 (by decide)) HR1.out.2)
          obtain ⟨e0, e1⟩ := hd wr hnx2
          obtain ⟨f0, f1⟩ := hd' wr hnx2
          clear hd hd' hvs hvs' hq
          go_wp2_with fail
          go_region_held3 (fun W => Below w0.heap.size w0 W ∧ W.cell? ⟨w.heap.size, 2, none⟩ = some (.slice (some ⟨b, off, none⟩) rs.length rcap) ∧ (W.cell? ⟨b, off + i * 2, none⟩ = some (.int .i64 r.1) ∧ W.cell? ⟨b, off + i * 2 + 1, none⟩ = some r.2.1) ∧ (W.cell? ⟨b, off + k * 2, none⟩ = some (.int .i64 q.1) ∧ W.cell? ⟨b, off + k * 2 + 1, none⟩ = some q.2.1))
            (first | exact HS.out _ hnx2.drew | exact HS.out _ (hL.alloc hL.size _).drew | exact HS.out _ (hL.alloc hL.size _) | exact HS.out _ hL.drew | exact HS.out _ (by assumption) | assumption)
            (first
              | (go_at_call 51; have hS := And.left ‹Below w0.heap.size w0 _ ∧ _ ∧ _ ∧ _›; refine (CR.out _ hS).mono ?_; rintro e w2 ⟨rfl, hb2⟩; have hL := hS.trans (hb2.mono hS.size); have ho2 := own_below hown2.drew hb2; clear hb2 hS)
              | (refine step_push (by rfl) _ _ 37 (by rfl) w0.heap.size 33 (.int .u32 0) 4 undSets infoSet rfl (by decide) enc (fun _ => rfl) _ qs (by rfl) ((ho2.alloc _).drew) ⟨w2.heap.size, 0, none⟩ (pairS r q) (by rfl) (by simp [enc]) (by omega) (Nat.le_trans hL.size (by simp)) ?_; intro v' w4 hown' hgrow; have hb4 : Below w0.heap.size w0 w4 := (by first | exact below_push hL hL.size ho2 hgrow | exact below_push hL.drew hL.size ho2.drew hgrow)))
          clear hgrow hown2 ho2 hL
          go_wp2_with fail
          go_roundw
          case rel => exact ⟨k + 1, qs ++ [pairS r q], by omega, by omega, by go_num, hown', HQ2, hb4⟩
          case measure => simp [intOf]; omega
        · have HQ3 := hid (show qs ++ pairsS (rs.drop (i + 1)) = G by
            have h := HQ.out
            rw [List.drop_eq_nil_of_le (show rs.length ≤ k by omega)] at h
            simpa using h)
          go_wp2_with fail
          go_roundw
          case rel => exact ⟨i + 1, qs, by omega, by go_num, hown2, HQ3, hnx2⟩
          case measure => simp [intOf]; omega
    · have hps : ps = G := by
        have h := HP.out
        rw [List.drop_eq_nil_of_le (show rs.length ≤ i by omega)] at h
        simpa [pairsS] using h
      subst hps
      have HO := hid (own_mono hown hsz0)
      have HN := hid (B0.out.trans (hnx.mono hsz0))
      clear hown hnx
      go_wp2_with fail
      go_ret
      exact ⟨_, rfl, HO.out, HN.out⟩

end Go.Proofs.Ytkehelplmipenaa
