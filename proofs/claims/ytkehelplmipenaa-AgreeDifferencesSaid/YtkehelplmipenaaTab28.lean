/- The reference's Agree and Satisfies (chapters 3 and 27). -/
import Derived.Test.YtkehelplmipenaaTab27
import Derived.Test.YtkehelplmipenaaAgrL
namespace Go.Proofs.Ytkehelplmipenaa
open Go.RowKit

set_option maxHeartbeats 1600000 in
theorem ragree_any (i j : Int) (xs ys : List V3) (u v : Value) (s : S) (w : World) (hu : RdV w u xs) (hv : RdV w v ys) (hl : ys.length = xs.length) (h32 : xs.length ≤ 32) (hs : ∀ x ∈ xs, x.2.2.size ≤ 200) :
    Calls Try.prog 54 #[.agg #[.int .i64 i, u], .agg #[.int .i64 j, v], .int .u32 (iv s)] w fun e w' => e = .returned (.bool (agB xs ys s)) ∧ Below w.heap.size w w' := by
  have hb1 := below_alloc w (.cells #[.int .i64 i, u] 67)
  have C1 := hid (fun W h => cells2 (w := w) (a := .int .i64 i) (b := u) (t := 67) W h)
  obtain ⟨w1, hw1⟩ : ∃ w1 : World, w.alloc (.cells #[.int .i64 i, u] 67) = w1 := ⟨_, rfl⟩
  rw [hw1] at hb1 C1
  have hs1 : w1.heap.size = w.heap.size + 1 := by rw [← hw1]; simp
  have hb2 := below_alloc w1 (.cells #[.int .i64 j, v] 67)
  have C2 := hid (fun W h => cells2 (w := w1) (a := .int .i64 j) (b := v) (t := 67) W h)
  obtain ⟨w2, hw2⟩ : ∃ w2 : World, w1.alloc (.cells #[.int .i64 j, v] 67) = w2 := ⟨_, rfl⟩
  rw [hw2] at hb2 C2
  have B2 := hid (hb1.trans (hb2.mono hb1.size))
  have CC := hid (fun (W : World) (h : Below w2.heap.size w2 W) => (⟨⟨(C1.out W (hb2.trans (h.mono hb2.size))).1, (C1.out W (hb2.trans (h.mono hb2.size))).2⟩, by have := C2.out W h; rwa [hs1] at this⟩ : (W.cell? ⟨w.heap.size, 0, none⟩ = some (.int .i64 i) ∧ W.cell? ⟨w.heap.size, 1, none⟩ = some u) ∧ (W.cell? ⟨w.heap.size + 1, 0, none⟩ = some (.int .i64 j) ∧ W.cell? ⟨w.heap.size + 1, 1, none⟩ = some v)))
  have WW := hid (show (w.alloc (.cells #[.int .i64 i, u] 67)).alloc (.cells #[.int .i64 j, v] 67) = w2 by rw [hw1, hw2])
  have U := hid (RdC.below hu B2.out)
  have V := hid (RdC.below hv B2.out)
  have hsz2 := B2.out.size
  have V1 := hid (fun (W : World) (h : Below w2.heap.size w2 W) => rvalues_any i xs u s W (RdC.below U.out h) h32)
  have V2 := hid (fun (W : World) (h : Below w2.heap.size w2 W) => rvalues_any j ys v s W (RdC.below V.out h) (by omega))
  have VS := hid (fun (a b : Value) (W : World) (ha : RdV W a (valTo xs s xs.length)) (hb : RdV W b (valTo ys s ys.length)) => vsame_any (valTo xs s xs.length) (valTo ys s ys.length) a b W ha hb (by rw [hl]; exact (valTo_same xs ys s xs.length).symm) (fun x hx => hs x (mem_valTo (Nat.le_refl _) hx)))
  have AG := hid (show agB xs ys s = eqLs (valTo xs s xs.length) (valTo ys s ys.length) by unfold agB; rw [hl])
  rw [AG.out]
  simp only [enc_eq] at V1 V2
  generalize valTo xs s xs.length = vx at *
  generalize valTo ys s ys.length = vy at *
  generalize eqLs vx vy = r at *
  have HS := hid (fun (W : World) (h : Below w2.heap.size w2 W) => show Below w2.heap.size w2 W ∧ (W.cell? ⟨w.heap.size, 0, none⟩ = some (.int .i64 i) ∧ W.cell? ⟨w.heap.size, 1, none⟩ = some u) ∧ (W.cell? ⟨w.heap.size + 1, 0, none⟩ = some (.int .i64 j) ∧ W.cell? ⟨w.heap.size + 1, 1, none⟩ = some v) from ⟨h, CC.out W h⟩)
  obtain ⟨⟨c0, c1⟩, ⟨d0, d1⟩⟩ := CC.out _ (Below.refl _ _)
  clear hb1 hb2 C1 C2 hw1 hw2 hs1 hu hv AG
  go_enter Try.func54, Try.ntmps54
  go_wp2_with fail
  rw [WW.out]
  go_wp2_with fail
  go_region_held3 (fun W => Below w2.heap.size w2 W ∧ (W.cell? ⟨w.heap.size, 0, none⟩ = some (.int .i64 i) ∧ W.cell? ⟨w.heap.size, 1, none⟩ = some u) ∧ (W.cell? ⟨w.heap.size + 1, 0, none⟩ = some (.int .i64 j) ∧ W.cell? ⟨w.heap.size + 1, 1, none⟩ = some v))
    (first | exact HS.out _ (Below.refl _ _).drew | exact HS.out _ (by assumption))
    (first
      | (go_at_call 73; have hS := And.left ‹Below w2.heap.size w2 _ ∧ _ ∧ _›; with_reducible refine (V1.out _ hS).mono ?_; rintro e wa ⟨va, rfl, hra, hba⟩; have hLa := hS.trans (hba.mono hS.size); clear hba hS)
      | (go_at_call 73; have hS := And.left ‹Below w2.heap.size w2 _ ∧ _ ∧ _›; with_reducible refine (V2.out _ hS).mono ?_; rintro e wb ⟨vb, rfl, hrb, hbb⟩; have hLb := hS.trans (hbb.mono hS.size); have hra2 := RdC.below hra (by first | exact hbb | exact (Below.refl _ _).drew.trans (hbb.mono (Nat.le_refl _)) | exact Below.trans (below_drewN _ _ 1) hbb); clear hbb hS)
      | (go_at_call 72; have hS := And.left ‹Below w2.heap.size w2 _ ∧ _ ∧ _›; refine (VS.out _ _ _ (by first | exact hra2 | exact RdC.below hra2 (Below.refl _ _).drew) (by first | exact hrb | exact RdC.below hrb (Below.refl _ _).drew)).mono ?_; rintro e wc ⟨rfl, hbc⟩; have hLc := hS.trans (hbc.mono hS.size); clear hbc hS))
  have BQ := hid (B2.out.trans (hLc.mono hsz2))
  clear hLa hLb hLc hra hrb hra2
  go_wp2_with fail
  go_ret
  exact ⟨rfl, BQ.out⟩

/-- A table of rows satisfies a dependency. -/
def satR (f : F) (r q : Row3) : Bool := !(agB r.2.2 q.2.2 f.1) || agB r.2.2 q.2.2 f.2
def satB (rs : List Row3) (f : F) : Bool := rs.all fun r => rs.all (satR f r)
theorem all_hit {α : Type} {xs : List α} {p : α → Bool} {k : Nat} {x : α} (h : xs[k]? = some x) (hp : p x = false) : xs.all p = false := by
  rw [List.all_eq_false]
  exact ⟨x, List.mem_of_getElem? h, by simp [hp]⟩
theorem all_next {α : Type} {xs : List α} {p : α → Bool} {k : Nat} {x : α} (h : xs[k]? = some x) (hp : p x = true) (hn : (xs.take k).all p = true) : (xs.take (k + 1)).all p = true := by
  rw [take_next h, List.all_append, hn]; simp [hp]

attribute [local irreducible] Go.wpQuiet
set_option maxHeartbeats 3200000 in
set_option maxRecDepth 100000 in
theorem rsat_any (t : T3) (f : F) (av rv : Value) (w : World) (ht : RdT w av rv t) (hk : tabE2 t = 0) :
    Calls Try.prog 27 #[.agg #[.string t.1, av, rv], .agg #[.int .u32 (iv f.1), .int .u32 (iv f.2)]] w fun e w' => e = .returned (.bool (satB t.2.2 f)) ∧ Below w.heap.size w w' := by
  have hb00 := below_alloc w (.cells #[.string t.1, av, rv] 25)
  have hb01 := below_alloc (w.alloc (.cells #[.string t.1, av, rv] 25)) (.cells #[.int .u32 (iv f.1), .int .u32 (iv f.2)] 58)
  have hb0 := hb00.trans (hb01.mono hb00.size)
  have C3 := hid (fun W (h : Below ((w.alloc (.cells #[.string t.1, av, rv] 25)).alloc (.cells #[.int .u32 (iv f.1), .int .u32 (iv f.2)] 58)).heap.size ((w.alloc (.cells #[.string t.1, av, rv] 25)).alloc (.cells #[.int .u32 (iv f.1), .int .u32 (iv f.2)] 58)) W) => cells3 (w := w) (a := .string t.1) (b := av) (c := rv) (t := 25) W (hb01.trans (h.mono hb01.size)))
  have F2 := hid (fun W h => cells2 (w := w.alloc (.cells #[.string t.1, av, rv] 25)) (a := .int .u32 (iv f.1)) (b := .int .u32 (iv f.2)) (t := 58) W h)
  rw [show (w.alloc (.cells #[.string t.1, av, rv] 25)).heap.size = w.heap.size + 1 by simp] at F2
  have T0 := hid (ht.below hb0)
  obtain ⟨w0, hw0⟩ : ∃ w0 : World, (w.alloc (.cells #[.string t.1, av, rv] 25)).alloc (.cells #[.int .u32 (iv f.1), .int .u32 (iv f.2)] 58) = w0 := ⟨_, rfl⟩
  rw [hw0] at hb0 C3 T0 F2
  have B0 := hid hb0
  have W0 := hid hw0
  have hsz0 := hb0.size
  clear hb0 hw0 hb00 hb01
  obtain ⟨h16, h200, hrows⟩ := tabE2_ok hk
  obtain ⟨nm, ats, rs⟩ := t
  replace h16 : ats.length ≤ 16 := h16
  replace h200 : rs.length ≤ 200 := h200
  have HR := hid (show ∀ r ∈ rs, r.2.2.length = ats.length ∧ ∀ x ∈ r.2.2, x.2.2.size ≤ 200 from hrows)
  obtain ⟨ro, rcap, rfl, hrl, hrc⟩ := RdR.split T0.out.2
  have RC := hid hrc
  have SA := hid (show satB rs f = rs.all fun r => rs.all (satR f r) from rfl)
  show Calls _ _ _ _ fun e w' => e = .returned (.bool (satB rs f)) ∧ Below w.heap.size w w'
  obtain ⟨SB, hSB⟩ : ∃ SB, satB rs f = SB := ⟨_, rfl⟩
  rw [hSB] at SA ⊢
  clear hk ht hrc hrows hSB
  have RAG := hid (fun (i j : Int) (xs ys : List V3) (u v : Value) (s : S) (W : World) (hu : RdV W u xs) (hv : RdV W v ys) (hl : ys.length = xs.length) (h32 : xs.length ≤ 32) (hs : ∀ x ∈ xs, x.2.2.size ≤ 200) => ragree_any i j xs ys u v s W hu hv hl h32 hs)
  go_enter Try.func27, Try.ntmps27
  go_wp2_with fail
  rw [W0.out]
  go_wp2_with fail
  go_loopw [5] (fun i wr => ∃ k : Nat, k ≤ rs.length ∧ i = .int .i64 k ∧ Hid ((rs.take k).all (fun r => rs.all (satR f r)) = true) ∧ Below w0.heap.size w0 wr) (fun i _ => rs.length - (intOf i).toNat)
  case atStart => exact ⟨0, Nat.zero_le _, rfl, hid rfl, Below.refl _ _⟩
  case round =>
    obtain ⟨i, hk, rfl, HP, hnx⟩ := hrel
    have hsz := hnx.size
    obtain ⟨e0, e1, e2⟩ := C3.out _ hnx
    have i0 : (0 : Int) ≤ (i : Int) := by omega
    by_cases hlt : i < rs.length
    · obtain ⟨⟨rid, ru, rvs⟩, hr⟩ := get_some hlt
      obtain ⟨⟨b, off, rfl, hd⟩, hvs⟩ := RC.out i _ hr
      have HR1 := hid (HR.out _ (List.mem_of_getElem? hr))
      have VS := hid (fun (W : World) (h : Below w0.heap.size w0 W) => show RdV W ru rvs from hvs W h)
      have DD := hid (fun W h => hd W h)
      have XR := hid hr
      obtain ⟨wo, rfl⟩ : ∃ wo : World, wo = wr := ⟨_, rfl⟩
      have HLT := hid hlt
      have NXO := hid hnx
      clear hd hvs hr hnx
      go_wp2_with fail
      go_loopw [6] (fun j wr => ∃ k : Nat, k ≤ rs.length ∧ j = .int .i64 k ∧ Hid ((rs.take k).all (satR f (rid, ru, rvs)) = true) ∧ Below w0.heap.size w0 wr) (fun j _ => rs.length - (intOf j).toNat)
      case atStart => exact ⟨0, Nat.zero_le _, rfl, hid rfl, NXO.out⟩
      case round =>
        obtain ⟨k, hk2, rfl, HQ, hnx⟩ := hrel
        have hsz2 := hnx.size
        obtain ⟨f0, f1, f2⟩ := C3.out _ hnx
        obtain ⟨p0, p1⟩ := F2.out _ hnx
        have j0 : (0 : Int) ≤ (k : Int) := by omega
        by_cases hlt2 : k < rs.length
        · obtain ⟨⟨qid, qu, qvs⟩, hq⟩ := get_some hlt2
          have HR2 := hid (HR.out _ (List.mem_of_getElem? hq))
          obtain ⟨⟨b', off', hbb, hd'⟩, hvs'⟩ := RC.out k _ hq
          cases hbb
          have VS2 := hid (fun (W : World) (h : Below w0.heap.size w0 W) => show RdV W qu qvs from hvs' W h)
          have NX := hid hnx
          have XQ := hid hq
          have CA := hid (fun (s : S) (x : After wr) => Calls.after x (RAG.out rid qid rvs qvs ru qu s x.world (VS.out _ (NX.out.trans (x.below.mono hsz2))) (VS2.out _ (NX.out.trans (x.below.mono hsz2))) (by rw [HR1.out.1, HR2.out.1]) (by rw [HR1.out.1]; exact Nat.le_trans h16 (by decide)) HR1.out.2))
          have C1 := hid (CA.out f.1)
          have C2 := hid (CA.out f.2)
          obtain ⟨g0, g1⟩ := DD.out wr hnx
          obtain ⟨x0, x1⟩ := hd' wr hnx
          have m2 : ∀ x : After wr, x.world.cell? ⟨w.heap.size, 2, none⟩ = some (.slice (some ⟨b, off, none⟩) rs.length rcap) := fun x => After.cell f2 x
          have y0 : ∀ x : After wr, x.world.cell? ⟨w.heap.size + 1, 0, none⟩ = some (.int .u32 (iv f.1)) := fun x => After.cell p0 x
          have y1 : ∀ x : After wr, x.world.cell? ⟨w.heap.size + 1, 1, none⟩ = some (.int .u32 (iv f.2)) := fun x => After.cell p1 x
          have n0 : ∀ x : After wr, x.world.cell? ⟨b, off + i * 2, none⟩ = some (.int .i64 rid) := fun x => After.cell g0 x
          have n1 : ∀ x : After wr, x.world.cell? ⟨b, off + i * 2 + 1, none⟩ = some ru := fun x => After.cell g1 x
          have o0 : ∀ x : After wr, x.world.cell? ⟨b, off + k * 2, none⟩ = some (.int .i64 qid) := fun x => After.cell x0 x
          have o1 : ∀ x : After wr, x.world.cell? ⟨b, off + k * 2 + 1, none⟩ = some qu := fun x => After.cell x1 x
          have SR := hid (show satR f (rid, ru, rvs) (qid, qu, qvs) = (!(agB rvs qvs f.1) || agB rvs qvs f.2) from rfl)
          have HK2 := hid hlt2
          have HLT2 := hid HLT.out
          clear hd' hvs' hq hnx CA
          cases h1 : agB rvs qvs f.1 with
          | false =>
            rw [h1] at C1 SR
            have P := hid (show satR f (rid, ru, rvs) (qid, qu, qvs) = true by rw [SR.out]; rfl)
            clear h1 C2
            go_wp2_with fail
            refine wp_region_after (by kernel_rfl) (by kernel_rfl) ?_
            repeat (any_goals (quiet_step (first | exact C1.out _)))
            refine wpQuiet_nil ?_
            intro wq hbq
            have BQ := hid (NX.out.trans (hbq.mono hsz2))
            clear hbq m2 y0 y1 n0 n1 o0 o1 C1
            go_wp2_with fail
            go_roundw
            case rel => exact ⟨k + 1, by have := HK2.out; omega, by go_num, hid (all_next XQ.out P.out HQ.out), BQ.out⟩
            case measure => have := HK2.out; simp [intOf]; omega
          | true =>
            cases h2 : agB rvs qvs f.2 with
            | true =>
              rw [h1, h2] at SR
              rw [h1] at C1
              rw [h2] at C2
              have P := hid (show satR f (rid, ru, rvs) (qid, qu, qvs) = true by rw [SR.out]; rfl)
              clear h1 h2
              go_wp2_with fail
              refine wp_region_after (by kernel_rfl) (by kernel_rfl) ?_
              repeat (any_goals (quiet_step (first | (with_reducible exact C1.out _) | exact C2.out _)))
              refine wpQuiet_nil ?_
              intro wq hbq
              have BQ := hid (NX.out.trans (hbq.mono hsz2))
              clear hbq m2 y0 y1 n0 n1 o0 o1 C1 C2
              go_wp2_with fail
              go_roundw
              case rel => exact ⟨k + 1, by have := HK2.out; omega, by go_num, hid (all_next XQ.out P.out HQ.out), BQ.out⟩
              case measure => have := HK2.out; simp [intOf]; omega
            | false =>
              rw [h1, h2] at SR
              rw [h1] at C1
              rw [h2] at C2
              have P := hid (show SB = false by rw [SA.out]; exact all_hit XR.out (all_hit XQ.out (by rw [SR.out]; rfl)))
              clear h1 h2
              go_wp2_with fail
              refine wp_region_after (by kernel_rfl) (by kernel_rfl) ?_
              repeat (any_goals (quiet_step (first | (with_reducible exact C1.out _) | exact C2.out _)))
              refine wpQuiet_nil ?_
              intro wq hbq
              have BQ := hid (B0.out.trans ((NX.out.trans (hbq.mono hsz2)).mono hsz0))
              clear hbq m2 y0 y1 n0 n1 o0 o1 C1 C2
              go_wp2_with fail
              go_ret
              exact ⟨ret_bool P.out.symm, BQ.out⟩
        · have HQ2 := hid (show rs.all (satR f (rid, ru, rvs)) = true by have h := HQ.out; rwa [take_all hlt2] at h)
          have NX := hid hnx
          clear hnx HQ
          go_wp2_with fail
          go_roundw
          case rel => exact ⟨i + 1, by have := HLT.out; omega, by go_num, hid (all_next XR.out HQ2.out HP.out), NX.out⟩
          case measure => have := HLT.out; simp [intOf]; omega
    · have HP2 := hid (show SB = true by rw [SA.out]; have h := HP.out; rwa [take_all hlt] at h)
      have BF := hid (B0.out.trans (hnx.mono hsz0))
      clear hnx HP
      go_wp2_with fail
      go_ret
      exact ⟨ret_bool HP2.out.symm, BF.out⟩

end Go.Proofs.Ytkehelplmipenaa
