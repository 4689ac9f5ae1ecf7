/- Texts that belong together, in one file. -/
import Derived.Test.YtcfcmalaabmceaaGreatDoorGBas
import Derived.Test.YtcfcmalaabmceaaGreatDoorListD
import Derived.Deep.RegionLaw
import Derived.Test.YtcfcmalaabmceaaGreatDoorGBasB
import Derived.Test.YtcfcmalaabmceaaGreatDoorGFdmB
/- Plain laws: what follows by the dependency basis holds in each table that satisfies the lists. No program. -/
namespace Go.Proofs.YtcfcmalaabmceaaGreatDoor
open Go.RowKit
set_option linter.unusedVariables false
set_option linter.unusedSimpArgs false

section
variable {ρ : Type}
/-- Rows that agree at the members of a set. -/
def agS (ag : ρ → ρ → Nat → Prop) (s : S) (r q : ρ) : Prop := ∀ a, a < 32 → s.getLsbD a = true → ag r q a
/-- An equivalence at each attribute. -/
structure AgE (ag : ρ → ρ → Nat → Prop) : Prop where
  refl : ∀ r a, ag r r a
  symm : ∀ r q a, ag r q a → ag q r a
  trans : ∀ r q t a, ag r q a → ag q t a → ag r t a
/-- X ->> Y holds: with two rows that agree on X there is one that has the values of the first on X and Y, and those of the second elsewhere. -/
def mvdH (ag : ρ → ρ → Nat → Prop) (R : List ρ) (full x y : S) : Prop := ∀ r ∈ R, ∀ q ∈ R, agS ag x r q → ∃ t ∈ R, agS ag (x ||| y) t r ∧ agS ag (full &&& ~~~ (x ||| y)) t q
def fdH (ag : ρ → ρ → Nat → Prop) (R : List ρ) (x y : S) : Prop := ∀ r ∈ R, ∀ q ∈ R, agS ag x r q → agS ag y r q
variable {ag : ρ → ρ → Nat → Prop} {R : List ρ} {full : S}
theorem s_or (a b : S) (i : Nat) : (a ||| b).getLsbD i = (a.getLsbD i || b.getLsbD i) := BitVec.getLsbD_or
theorem s_and (a b : S) (i : Nat) : (a &&& b).getLsbD i = (a.getLsbD i && b.getLsbD i) := BitVec.getLsbD_and
theorem s_diff (a b : S) {i : Nat} (hi : i < 32) : (a &&& ~~~ b).getLsbD i = (a.getLsbD i && !b.getLsbD i) := by rw [BitVec.getLsbD_and, BitVec.getLsbD_not]; simp [hi]
/-- What a row t has: the values of r on u, those of q elsewhere. -/
def mixT (ag : ρ → ρ → Nat → Prop) (full u : S) (t r q : ρ) : Prop := ∀ a, a < 32 → full.getLsbD a = true → (u.getLsbD a = true → ag t r a) ∧ (u.getLsbD a = false → ag t q a)
theorem mvdH_iff (hf : ∀ s : S, sub s full → True) {x y : S} (hx : sub x full) (hy : sub y full) : mvdH ag R full x y ↔ ∀ r ∈ R, ∀ q ∈ R, agS ag x r q → ∃ t ∈ R, mixT ag full (x ||| y) t r q := by
  refine forall_congr' fun r => forall_congr' fun _ => forall_congr' fun q => forall_congr' fun _ => forall_congr' fun _ => exists_congr fun t => and_congr_right fun _ => ?_
  constructor
  · rintro ⟨h1, h2⟩ a ha hfa
    refine ⟨fun h => h1 a ha h, fun h => h2 a ha ?_⟩
    rw [s_diff _ _ ha, hfa, h]; rfl
  · intro h
    refine ⟨fun a ha hu => ?_, fun a ha hu => ?_⟩
    · have : full.getLsbD a = true := by
        rw [s_or, Bool.or_eq_true] at hu
        exact hu.elim (hx a ha) (hy a ha)
      exact (h a ha this).1 hu
    · rw [s_diff _ _ ha, Bool.and_eq_true, Bool.not_eq_true'] at hu
      exact (h a ha hu.1).2 hu.2
/-- A reachable block: X ->> b. -/
def blkH (ag : ρ → ρ → Nat → Prop) (R : List ρ) (full x b : S) : Prop := ∀ r ∈ R, ∀ q ∈ R, agS ag x r q → ∃ t ∈ R, mixT ag full (x ||| b) t r q
theorem blkP_sub {ms : List F} {rest b : S} (h : BlkP ms rest b) : sub b rest := by
  induction h with
  | start => exact sub_refl _
  | inn _ _ _ ih => exact fun i hi hx => ih i hi (by rw [s_and, Bool.and_eq_true] at hx; exact hx.1)
  | out _ _ _ ih => exact fun i hi hx => ih i hi (by rw [s_and, Bool.and_eq_true] at hx; exact hx.1)
theorem spl_apart {m : F} {b : S} (h : spl m b = true) {i : Nat} (hb : b.getLsbD i = true) : m.1.getLsbD i = false := by
  unfold spl at h
  simp only [Bool.and_eq_true, beq_iff_eq] at h
  have e := congrArg (fun s : S => s.getLsbD i) h.1.1
  simp only [s_and, hb, Bool.true_and] at e
  simpa using e
theorem blk_holds (he : AgE ag) {ms : List F} {x : S} (hx : sub x full) (hms : ∀ m ∈ ms, sub m.1 full ∧ sub m.2 full ∧ mvdH ag R full m.1 m.2) {b : S} (h : BlkP ms (full &&& ~~~ x) b) : blkH ag R full x b := by
  have split : ∀ {b : S} {m : F}, blkH ag R full x b → m ∈ ms → spl m b = true → sub b (full &&& ~~~ x) → ∀ r ∈ R, ∀ q ∈ R, agS ag x r q → (∃ t ∈ R, mixT ag full (x ||| (b &&& m.2)) t r q) ∧ ∃ t ∈ R, mixT ag full (x ||| (b &&& ~~~ m.2)) t r q := by
    intro b m hb hm hs hbs r hr q hq hrq
    obtain ⟨h1, h2, h3⟩ := hms m hm
    obtain ⟨t1, ht1, m1⟩ := hb r hr q hq hrq
    have h3' := (mvdH_iff (fun _ _ => trivial) h1 h2).1 h3
    -- t1 agrees with q off b
    have off : ∀ a, a < 32 → full.getLsbD a = true → b.getLsbD a = false → ag t1 q a := by
      intro a ha hf hba
      cases hxa : x.getLsbD a with
      | true => exact he.trans _ _ _ _ ((m1 a ha hf).1 (by rw [s_or, hxa]; rfl)) (hrq a ha hxa)
      | false => exact (m1 a ha hf).2 (by rw [s_or, hxa, hba]; rfl)
    have agv : agS ag m.1 t1 q := fun a ha hv => off a ha (h1 a ha hv) (by
      cases hba : b.getLsbD a with
      | false => rfl
      | true => rw [spl_apart hs hba] at hv; cases hv)
    have agx : ∀ a, a < 32 → x.getLsbD a = true → ag t1 r a := fun a ha hxa => (m1 a ha (hx a ha hxa)).1 (by rw [s_or, hxa]; rfl)
    have nb : ∀ a, a < 32 → b.getLsbD a = true → x.getLsbD a = false ∧ m.1.getLsbD a = false := fun a ha hba => by
      have := hbs a ha hba
      rw [s_diff _ _ ha, Bool.and_eq_true, Bool.not_eq_true'] at this
      exact ⟨this.2, spl_apart hs hba⟩
    refine ⟨?_, ?_⟩
    · obtain ⟨t2, ht2, m2⟩ := h3' t1 ht1 q hq agv
      refine ⟨t2, ht2, fun a ha hf => ?_⟩
      have c1 := (m2 a ha hf).1
      have c2 := (m2 a ha hf).2
      rw [s_or] at c1 c2
      cases hw : (m.1.getLsbD a || m.2.getLsbD a) with
      | true =>
        refine ⟨fun hu => ?_, fun hu => ?_⟩
        · refine he.trans _ _ _ _ (c1 hw) ?_
          rw [s_or, s_and, Bool.or_eq_true, Bool.and_eq_true] at hu
          rcases hu with hu | hu
          · exact agx a ha hu
          · exact (m1 a ha hf).1 (by rw [s_or, hu.1]; simp)
        · refine he.trans _ _ _ _ (c1 hw) ?_
          rw [s_or, s_and, Bool.or_eq_false_iff] at hu
          refine off a ha hf ?_
          cases hba : b.getLsbD a with
          | false => rfl
          | true =>
            rw [hba, Bool.true_and] at hu
            rw [(nb a ha hba).2, hu.2] at hw
            cases hw
      | false =>
        rw [Bool.or_eq_false_iff] at hw
        have hq2 := c2 (by rw [hw.1, hw.2]; rfl)
        refine ⟨fun hu => ?_, fun _ => hq2⟩
        rw [s_or, s_and, hw.2, Bool.and_false, Bool.or_false] at hu
        exact he.trans _ _ _ _ hq2 (he.symm _ _ _ (hrq a ha hu))
    · obtain ⟨t3, ht3, m3⟩ := h3' q hq t1 ht1 (fun a ha hv => he.symm _ _ _ (agv a ha hv))
      refine ⟨t3, ht3, fun a ha hf => ?_⟩
      have c1 := (m3 a ha hf).1
      have c2 := (m3 a ha hf).2
      rw [s_or] at c1 c2
      cases hw : (m.1.getLsbD a || m.2.getLsbD a) with
      | true =>
        have hq2 := c1 hw
        refine ⟨fun hu => ?_, fun _ => hq2⟩
        rw [s_or, s_diff _ _ ha, Bool.or_eq_true, Bool.and_eq_true, Bool.not_eq_true'] at hu
        rcases hu with hu | hu
        · exact he.trans _ _ _ _ hq2 (he.symm _ _ _ (hrq a ha hu))
        · rw [(nb a ha hu.1).2, hu.2] at hw; cases hw
      | false =>
        have ht := c2 hw
        rw [Bool.or_eq_false_iff] at hw
        refine ⟨fun hu => ?_, fun hu => ?_⟩
        · refine he.trans _ _ _ _ ht ?_
          rw [s_or, s_diff _ _ ha, Bool.or_eq_true, Bool.and_eq_true] at hu
          rcases hu with hu | hu
          · exact agx a ha hu
          · exact (m1 a ha hf).1 (by rw [s_or, hu.1]; simp)
        · refine he.trans _ _ _ _ ht (off a ha hf ?_)
          rw [s_or, s_diff _ _ ha, hw.2, Bool.or_eq_false_iff] at hu
          simpa using hu.2
  induction h with
  | start =>
    intro r hr q hq hrq
    refine ⟨r, hr, fun a ha hf => ⟨fun _ => he.refl _ _, fun hu => ?_⟩⟩
    rw [s_or, s_diff _ _ ha, hf, Bool.true_and, Bool.or_eq_false_iff] at hu
    rw [hu.1] at hu
    simp at hu
  | inn hb hm hs ih => exact fun r hr q hq hrq => (split ih hm hs (blkP_sub hb) r hr q hq hrq).1
  | out hb hm hs ih => exact fun r hr q hq hrq => (split ih hm hs (blkP_sub hb) r hr q hq hrq).2
theorem union_holds (he : AgE ag) {x : S} (hx : sub x full) : ∀ (bs : List S), (∀ b ∈ bs, blkH ag R full x b) → ∀ r ∈ R, ∀ q ∈ R, agS ag x r q → ∃ t ∈ R, ∀ a, a < 32 → full.getLsbD a = true → ((x.getLsbD a = true ∨ ∃ b ∈ bs, b.getLsbD a = true) → ag t r a) ∧ (x.getLsbD a = false → (∀ b ∈ bs, b.getLsbD a = false) → ag t q a)
  | [], _, r, hr, q, hq, hrq => ⟨q, hq, fun a ha hf => ⟨(fun h => by
      rcases h with h | ⟨b, hb, _⟩
      · exact he.symm _ _ _ (hrq a ha h)
      · simp at hb), fun _ _ => he.refl _ _⟩⟩
  | b :: bs, hbs, r, hr, q, hq, hrq => by
    obtain ⟨t, ht, h⟩ := union_holds he hx bs (fun c hc => hbs c (by simp [hc])) r hr q hq hrq
    have agx : agS ag x r t := fun a ha hxa => he.symm _ _ _ ((h a ha (hx a ha hxa)).1 (.inl hxa))
    obtain ⟨t2, ht2, m2⟩ := hbs b (by simp) r hr t ht agx
    refine ⟨t2, ht2, fun a ha hf => ?_⟩
    have c1 := (m2 a ha hf).1
    have c2 := (m2 a ha hf).2
    rw [s_or] at c1 c2
    refine ⟨fun hu => ?_, fun h1 h2 => ?_⟩
    · cases hxb : (x.getLsbD a || b.getLsbD a) with
      | true => exact c1 hxb
      | false =>
        refine he.trans _ _ _ _ (c2 hxb) ((h a ha hf).1 ?_)
        rw [Bool.or_eq_false_iff] at hxb
        rcases hu with hu | ⟨c, hc, hca⟩
        · exact .inl hu
        · rcases List.mem_cons.1 hc with rfl | hc
          · rw [hxb.2] at hca; cases hca
          · exact .inr ⟨c, hc, hca⟩
    · exact he.trans _ _ _ _ (c2 (by rw [h1, h2 b (by simp)]; rfl)) ((h a ha hf).2 h1 (fun c hc => h2 c (by simp [hc])))
/-- What ImpliesMVD accepts holds. -/
theorem mvd_sound (he : AgE ag) {ms : List F} {x y : S} (hx : sub x full) (hy : sub y full) (hms : ∀ m ∈ ms, sub m.1 full ∧ sub m.2 full ∧ mvdH ag R full m.1 m.2) {ys : List S} (hb : ∀ b ∈ ys, BlkP ms (full &&& ~~~ x) b)
    (hc : ∀ i, (full &&& ~~~ x).getLsbD i = true → ∃ b ∈ ys, b.getLsbD i = true) (hcut : ys.any (cutB y) = false) : mvdH ag R full x y := by
  rw [mvdH_iff (fun _ _ => trivial) hx hy]
  intro r hr q hq hrq
  rw [List.any_eq_false] at hcut
  -- the blocks within y
  obtain ⟨t, ht, h⟩ := union_holds he hx (ys.filter fun b => b &&& ~~~ y == 0#32) (fun b hbm => blk_holds he hx hms (hb b (List.mem_filter.1 hbm).1)) r hr q hq hrq
  refine ⟨t, ht, fun a ha hf => ⟨fun hu => ?_, fun hu => ?_⟩⟩
  · refine (h a ha hf).1 ?_
    rw [s_or, Bool.or_eq_true] at hu
    cases hxa : x.getLsbD a with
    | true => exact .inl rfl
    | false =>
      right
      have hya : y.getLsbD a = true := by
        rcases hu with hu | hu
        · rw [hxa] at hu; cases hu
        · exact hu
      obtain ⟨b, hbm, hba⟩ := hc a (by rw [s_diff _ _ ha, hf, hxa]; rfl)
      refine ⟨b, List.mem_filter.2 ⟨hbm, ?_⟩, hba⟩
      have hn := hcut b hbm
      unfold cutB at hn
      have h1 : (b &&& y == 0#32) = false := by
        rw [beq_eq_false_iff_ne]
        intro e
        have e2 := congrArg (fun s : S => s.getLsbD a) e
        simp only [s_and, hba, hya] at e2
        simp at e2
      rw [h1] at hn
      simpa using hn
  · rw [s_or, Bool.or_eq_false_iff] at hu
    refine (h a ha hf).2 hu.1 (fun b hbm => ?_)
    have h0 := (List.mem_filter.1 hbm).2
    rw [beq_iff_eq] at h0
    cases hba : b.getLsbD a with
    | false => rfl
    | true =>
      have e2 := congrArg (fun s : S => s.getLsbD a) h0
      simp only [s_diff _ _ ha, hba, hu.2] at e2
      simp at e2
/-- A functional dependency gives a multivalued one for each attribute of its right side. -/
theorem fd_mvd (he : AgE ag) {f : F} (h1 : sub f.1 full) (hf : fdH ag R f.1 f.2) {a : Nat} (ha : a < 32) (hm : f.2.getLsbD a = true) (hfull : full.getLsbD a = true) : mvdH ag R full f.1 (bit a) := by
  rw [mvdH_iff (fun _ _ => trivial) h1 (fun i hi hb => by
    have : i = a := by
      unfold bit at hb
      rw [BitVec.getLsbD_shiftLeft, BitVec.getLsbD_one] at hb
      simp at hb
      omega
    rw [this]; exact hfull)]
  intro r hr q hq hrq
  refine ⟨q, hq, fun i hi hif => ⟨fun hu => ?_, fun _ => he.refl _ _⟩⟩
  rw [s_or, Bool.or_eq_true] at hu
  rcases hu with hu | hu
  · exact he.symm _ _ _ (hrq i hi hu)
  · have : i = a := by
      unfold bit at hu
      rw [BitVec.getLsbD_shiftLeft, BitVec.getLsbD_one] at hu
      simp at hu
      omega
    rw [this]
    exact he.symm _ _ _ (hf r hr q hq hrq a ha hm)
/-- Coalescence: an attribute that is a block, and that some dependency determines from elsewhere. -/
theorem coal (he : AgE ag) {x : S} {a : Nat} (ha : a < 32) (hfa : full.getLsbD a = true) {b : S} (hb : ∀ i, i < 32 → (b.getLsbD i = true ↔ i = a)) (hbl : blkH ag R full x b) {f : F} (h1 : sub f.1 full) (hf : fdH ag R f.1 f.2) (hm : f.2.getLsbD a = true) (hn : f.1.getLsbD a = false) {r q : ρ} (hr : r ∈ R) (hq : q ∈ R) (hrq : agS ag x r q) : ag r q a := by
  obtain ⟨t, ht, m⟩ := hbl r hr q hq hrq
  have htr : ag t r a := (m a ha hfa).1 (by rw [s_or, (hb a ha).2 rfl]; simp)
  have agf : agS ag f.1 t q := fun i hi hif => by
    have hia : i ≠ a := fun e => by rw [e, hn] at hif; cases hif
    have hbi : b.getLsbD i = false := by
      cases h : b.getLsbD i with
      | false => rfl
      | true => exact absurd ((hb i hi).1 h) hia
    cases hxi : x.getLsbD i with
    | true => exact he.trans _ _ _ _ ((m i hi (h1 i hi hif)).1 (by rw [s_or, hxi]; rfl)) (hrq i hi hxi)
    | false => exact (m i hi (h1 i hi hif)).2 (by rw [s_or, hxi, hbi]; rfl)
  exact he.trans _ _ _ _ (he.symm _ _ _ htr) (hf t ht q hq agf a ha hm)
end

end Go.Proofs.YtcfcmalaabmceaaGreatDoor


/- The walks of drossref13.List and Of: a description becomes a list of each kind of dependencies. -/
namespace Go.Proofs.YtcfcmalaabmceaaGreatDoor
open Go.RowKit
set_option linter.unusedVariables false
set_option linter.unusedSimpArgs false

theorem results_tmp4 {fn : Func} {t u v x : Tmp} (h : fn.results = #[.tmp t, .tmp u, .tmp v, .tmp x]) (tmps : Array Value) (P : Program) (w : World) :
    (results fn tmps).run P w = .ok (.tuple #[tmps.getD t undef, tmps.getD u undef, tmps.getD v undef, tmps.getD x undef]) w := by
  simp [results, h]

set_option maxHeartbeats 1600000 in
set_option maxRecDepth 100000 in
theorem mlist_any (n : Int) (ds : List D8) (v : Value) (w : World) (hv : RdD w v ds) (h40 : ds.length < 1099511627776) :
    Calls Tryz.prog 9 #[.int .i64 n, v] w fun e w' => ∃ v', e = .returned v' ∧ w'.ownsRow w.heap.size 51 2 v' (listF (fullN (min n.toNat 32)) ds).length ((listF (fullN (min n.toNat 32)) ds).flatMap cF) ∧ Below w.heap.size w w' := by
  have L := hid (list_any n ds v w hv h40)
  have xl := listF_length (fullN (min n.toNat 32)) ds
  obtain ⟨ao, cap, rfl, -⟩ := hv.split
  obtain ⟨xs, hxs⟩ : ∃ xs, listF (fullN (min n.toNat 32)) ds = xs := ⟨_, rfl⟩
  rw [hxs] at L xl
  rw [hxs]
  clear hv hxs
  go_enter Tryz.func9, Tryz.ntmps9
  go_wp2_with fail
  refine L.out.mono ?_
  rintro e w1 ⟨v1, rfl, ho1, hb1⟩
  have R1 := RdC.of_owns cF_length ho1 (by omega)
  obtain ⟨xo, xcap, rfl, -, hxc⟩ := RdF.split R1
  have FC := hid hxc
  have B1 := hid hb1
  have hs1 := hb1.size
  clear R1 ho1 hb1 hxc L
  go_wp2_with fail
  go_loopw [5, 7] (fun u i wr => ∃ k : Nat, k ≤ xs.length ∧ i = .int .i64 k ∧ wr.ownsRow w1.heap.size 51 2 u (xs.take k).length ((xs.take k).flatMap cF) ∧ Below w1.heap.size w1 wr) (fun _ i _ => xs.length - (intOf i).toNat)
  case atStart => exact ⟨0, Nat.zero_le _, rfl, World.ownsRow_nil _ _ _ _, Below.refl _ _⟩
  case round =>
    obtain ⟨k, hk, rfl, hown, hnx⟩ := hrel
    have hsz := hnx.size
    have hll : (xs.take k).length ≤ k := by simp; omega
    by_cases hlt : k < xs.length
    · obtain ⟨d, hd⟩ := get_some hlt
      obtain ⟨b, off, rfl, hfc⟩ := FC.out k d hd
      obtain ⟨e0, e1⟩ := hfc wr hnx
      have LN := hid (take_next hd)
      have HS := hid (fun (W : World) (h : Below w1.heap.size w1 W) => And.intro h (hfc W h))
      clear hfc hd
      generalize xs.take k = ys at *
      have i0 : (0 : Int) ≤ (k : Int) := by omega
      have i1 : (k : Int) < (xs.length : Int) := by omega
      go_wp2_with fail
      go_region_held3 (fun W => Below w1.heap.size w1 W ∧ W.cell? ⟨b, off + k * 2, none⟩ = some (.int .u32 (iv d.1)) ∧ W.cell? ⟨b, off + k * 2 + 1, none⟩ = some (.int .u32 (iv d.2)))
        (first | exact HS.out _ hnx.drew | exact HS.out _ (hnx.alloc hsz _).drew | exact HS.out _ (by assumption))
        ((refine step_pushC (by rfl) _ _ 39 (by rfl) w1.heap.size 51 (.agg #[.int .u32 0, .int .u32 0]) 2 8 undMs infoM rfl (by decide) (by decide) cF cF_length cF_one _ ys (by rfl) ((hown.alloc _).drew) ⟨wr.heap.size, 0, none⟩ d (by rfl) (cells_newFd _ d) (by omega) (by simp; omega) ?_; intro v' w2 hown' hgrow; have hb2 : Below w1.heap.size w1 w2 := below_push hnx.drew hsz hown.drew hgrow))
      clear hgrow hown hnx e0 e1
      go_wp2_with fail
      go_roundw
      case rel => exact ⟨k + 1, by omega, by go_num, by rw [LN.out]; simpa using hown', hb2⟩
      case measure => simp [intOf]; omega
    · rw [take_all hlt] at hown
      have OO := hid (own_mono hown (B' := w.heap.size) hs1)
      have BB := hid (B1.out.trans (hnx.mono hs1))
      clear hown hnx
      go_wp2_with fail
      go_ret
      exact ⟨_, rfl, OO.out, BB.out⟩

set_option maxHeartbeats 1600000 in
set_option maxRecDepth 100000 in
theorem mof_any (n : U8) (u u2 : Value) (ds es : List D8) (w : World) (hu : RdD w u ds) (hu2 : RdD w u2 es) (h40 : ds.length < 1099511627776) (h41 : es.length < 1099511627776) :
    Calls Tryz.prog 5 #[.agg #[enc8 n, u, u2]] w fun e w' => ∃ v1 v2, e = .returned (.tuple #[.int .i64 (n.toNat % 7 : Nat), v1, v2, .bool (decide (ds.length ≤ 6) && decide (es.length ≤ 4))]) ∧ RdF w' v1 (listF (fullN (n.toNat % 7)) ds) ∧ RdF w' v2 (listF (fullN (n.toNat % 7)) es) ∧ Below w.heap.size w w' := by
  have b0 := below_alloc w (.cells #[enc8 n, u, u2] 29)
  have C3 := hid (fun W h => cells3 (w := w) (a := enc8 n) (b := u) (c := u2) (t := 29) W h)
  obtain ⟨w0, hw0⟩ : ∃ w0 : World, w.alloc (.cells #[enc8 n, u, u2] 29) = w0 := ⟨_, rfl⟩
  rw [hw0] at b0 C3
  have W0 := hid hw0
  have B0 := hid b0
  have OF := hid (fun (W : World) (h : Below w0.heap.size w0 W) => of_any n u ds W ((hu.below b0).below h) h40)
  have ML := hid (fun (W : World) (h : Below w0.heap.size w0 W) => mlist_any ((n.toNat % 7 : Nat) : Int) es u2 W ((hu2.below b0).below h) h41)
  have hmn : min ((n.toNat % 7 : Nat) : Int).toNat 32 = n.toNat % 7 := by omega
  rw [hmn] at ML
  have ll1 := listF_length (fullN (n.toNat % 7)) ds
  have ll2 := listF_length (fullN (n.toNat % 7)) es
  obtain ⟨ao, cap, rfl, -⟩ := hu.split
  obtain ⟨eo, ecap, rfl, -⟩ := hu2.split
  obtain ⟨c0, c1, c2⟩ := C3.out _ (Below.refl _ _)
  have q6 : n.toNat % 7 ≤ 6 := by omega
  have hq : decide ((es.length : Int) ≤ 4) = decide (es.length ≤ 4) := by rw [decide_eq_decide]; omega
  obtain ⟨RR, hRR⟩ : ∃ RR, (decide (ds.length ≤ 6) && decide (es.length ≤ 4)) = RR := ⟨_, rfl⟩
  rw [hRR]
  have HR := hid (show RR = (decide (ds.length ≤ 6) && decide ((es.length : Int) ≤ 4)) by rw [← hRR, hq])
  clear hq hRR
  clear hu hu2 b0 hw0 hmn
  generalize hk : n.toNat % 7 = k at *
  generalize listF (fullN k) ds = xs at *
  generalize listF (fullN k) es = ys at *
  have k0 : (0 : Int) ≤ (k : Int) := by omega
  have k6 : (k : Int) ≤ 6 := by omega
  have HS := hid (fun (W : World) (h : Below w0.heap.size w0 W) => And.intro h (C3.out W h))
  unfold enc8 at *
  have HL1 := hid ll1
  have HL2 := hid ll2
  clear hk ll1 ll2
  go_enter Tryz.func5, Tryz.ntmps5
  go_upto_region 1 with fail
  rw [W0.out]
  go_wp2_with fail
  refine (OF.out _ (Below.refl _ _)).mono ?_
  rintro e w1 ⟨v1, rfl, ho1, hb1⟩
  have R1 := hid (show RdF w1 v1 xs from RdC.of_owns cF_length ho1 (by have := HL1.out; omega))
  have D1 := hid hb1
  obtain ⟨xo, xcap, rfl, -⟩ := R1.out
  clear hb1 ho1 c0 c1 c2
  obtain ⟨c0, c1, c2⟩ := C3.out _ D1.out
  have HS1 := hid (fun (W : World) (h : Below w1.heap.size w1 W) => And.intro h (C3.out W (D1.out.trans (h.mono D1.out.size))))
  by_cases hd : ds.length ≤ 6
  · rw [decide_eq_true hd] at HR ⊢
    rw [Bool.true_and] at HR
    go_wp2_with fail
    go_region_held3 (fun W => Below w1.heap.size w1 W ∧ W.cell? ⟨w.heap.size, 0, none⟩ = some (.int .u8 (n.toNat : Int)) ∧ W.cell? ⟨w.heap.size, 1, none⟩ = some (.slice ao ds.length cap) ∧ W.cell? ⟨w.heap.size, 2, none⟩ = some (.slice eo es.length ecap))
      (first | exact HS1.out _ (below_drewN' (Below.refl _ _) _) | exact HS1.out _ (Below.refl _ _).drew | exact HS1.out _ (Below.refl _ _) | exact HS1.out _ (by assumption))
      (first
        | (go_at_call 9; have hS := And.left ‹Below w1.heap.size w1 _ ∧ _ ∧ _ ∧ _›; refine (ML.out _ (D1.out.trans (hS.mono D1.out.size))).mono ?_; rintro e wa ⟨va, rfl, hoa, hba⟩; have hLa := hS.trans (hba.mono hS.size); clear hba hS))
    all_goals
      have BF := hid (B0.out.trans ((D1.out.trans (hLa.mono D1.out.size)).mono B0.out.size))
      have RX := hid (RdC.below R1.out hLa)
      have RY := hid (show RdF _ _ ys from RdC.of_owns cF_length hoa (by have := HL2.out; omega))
      clear hLa hoa c0 c1 c2
      go_wp2_with fail
      (try simp only [Exit.inBlock, Exit.then])
      refine bodyPost_ret (results_tmp4 rfl _ _ _) rfl ?_
      exact ⟨_, _, by rw [HR.out]; rfl, RX.out, RY.out, BF.out⟩
  · rw [decide_eq_false hd] at HR ⊢
    rw [Bool.false_and] at HR
    go_wp2_with fail
    first | (go_region_law ((go_simp; go_at_call 9; with_reducible refine (ML.out _ D1.out.drew).mono ?_; rintro e wa ⟨va, rfl, hoa, hba⟩; have hLa := D1.out.drew.trans (hba.mono D1.out.drew.size); have hL1 := (Below.refl w1.heap.size w1).drew.trans (hba.mono (Nat.le_refl _)); clear hba))) | fail
    all_goals
      have BF := hid (B0.out.trans (hLa.mono B0.out.size))
      have RX := hid (RdC.below R1.out hL1)
      have RY := hid (show RdF _ _ ys from RdC.of_owns cF_length hoa (by have := HL2.out; omega))
      clear hLa hL1 hoa c0 c1 c2
      go_wp2_with fail
      (try simp only [Exit.inBlock, Exit.then])
      refine bodyPost_ret (results_tmp4 rfl _ _ _) rfl ?_
      exact ⟨_, _, by rw [HR.out]; rfl, RX.out, RY.out, BF.out⟩

end Go.Proofs.YtcfcmalaabmceaaGreatDoor


/- The walk of refute.Satisfies. -/
namespace Go.Proofs.YtcfcmalaabmceaaGreatDoor
open Go.RowKit
set_option linter.unusedVariables false
set_option linter.unusedSimpArgs false

/-- The table satisfies both lists. -/
def satA (n : Nat) (rs : List Row3) (fs gs : List F) : Bool := fs.all (satB rs) && gs.all (mvdC n rs)

set_option maxHeartbeats 6400000 in
set_option maxRecDepth 100000 in
theorem rsat_all (t : T3) (av rv v u : Value) (fs gs : List F) (w : World) (ht : RdT w av rv t) (hT : Tab w) (hE : tabE2 t = 0) (hok : okT t) (hv : RdF w v fs) (hu : RdF w u gs) (hval : validF (t.2.1.length : Int) fs = 0) (hfl : fs.length ≤ 64) (hl : gs.length ≤ 64)
    (hf2 : ∀ f ∈ fs, sub f.1 (fullN t.2.1.length) ∧ sub f.2 (fullN t.2.1.length)) (hg2 : ∀ f ∈ gs, sub f.1 (fullN t.2.1.length) ∧ sub f.2 (fullN t.2.1.length)) :
    Calls Tryz.prog 7 #[.agg #[.string t.1, av, rv], v, u] w fun e w' => e = .returned (.tuple #[.bool (satA t.2.1.length t.2.2 fs gs), .int .i64 0]) ∧ Below w.heap.size w w' := by
  have hb0 := below_alloc w (.cells #[.string t.1, av, rv] 35)
  have C3 := hid (fun W h => cells3 (w := w) (a := .string t.1) (b := av) (c := rv) (t := 35) W h)
  obtain ⟨w0, hw0⟩ : ∃ w0 : World, w.alloc (.cells #[.string t.1, av, rv] 35) = w0 := ⟨_, rfl⟩
  rw [hw0] at hb0 C3
  have W0 := hid hw0
  have B0 := hid hb0
  have T0 := hid (ht.below hb0)
  have HT := hid (hT.below hb0)
  have TO := tabE2_ok hE
  have TV := hid (fun (W : World) (h : Below w0.heap.size w0 W) => tvalid_any t av rv W (T0.out.below h))
  rw [tabE2_tab hE] at TV
  have hg : ∀ m ∈ gs, (m.1 ||| m.2) >>> t.2.1.length = 0#32 := fun m hm => beq_iff_eq.1 ((shrOk_sub (by have := TO.1; omega)).2 (sub_or.2 (hg2 m hm)))
  have BV := hid (fun (W : World) (h : Below w0.heap.size w0 W) => basVa_any t.2.1.length fs gs v u W (RdC.below (RdC.below hv hb0) h) (RdC.below (RdC.below hu hb0) h) TO.1 hval hl hg)
  have HO := hid (fun (f : F) (W : World) (hf : f ∈ fs) (h : Below w0.heap.size w0 W) => pHolds_any t av rv f W (T0.out.below h) (HT.out.below h) hE hok (hf2 f hf).1 (hf2 f hf).2)
  have HM := hid (fun (f : F) (W : World) (hf : f ∈ gs) (h : Below w0.heap.size w0 W) => bholds_any t av rv f W (T0.out.below h) (HT.out.below h) hE hok (hg2 f hf).1 (hg2 f hf).2)
  have VF := hid (RdC.below hv hb0)
  have VG := hid (RdC.below hu hb0)
  have SA := hid (show satA t.2.1.length t.2.2 fs gs = (fs.all (satB t.2.2) && gs.all (mvdC t.2.1.length t.2.2)) from rfl)
  obtain ⟨pf, hpf⟩ : ∃ pf : F → Bool, satB t.2.2 = pf := ⟨_, rfl⟩
  obtain ⟨pm, hpm⟩ : ∃ pm : F → Bool, mvdC t.2.1.length t.2.2 = pm := ⟨_, rfl⟩
  simp only [hpf] at HO SA
  simp only [hpm] at HM SA
  rw [SA.out]
  obtain ⟨nm, ats, rs⟩ := t
  simp only at C3 TV BV HO HM W0 T0 TO ⊢
  obtain ⟨ao, acap, rfl, -⟩ := T0.out.1.split
  have al := TO.1
  have a1 : (ats.length : Int) ≤ 16 := by omega
  obtain ⟨vo, vcap, rfl, -, hvc⟩ := RdF.split VF.out
  obtain ⟨uo, ucap, rfl, -, huc⟩ := RdF.split VG.out
  have VC := hid hvc
  have UC := hid huc
  have fl : (fs.length : Int) ≤ 64 := by omega
  have gl : (gs.length : Int) ≤ 64 := by omega
  obtain ⟨c0, c1, c2⟩ := C3.out _ (Below.refl _ _)
  clear ht hT hE hok hv hu hval hfl hl hf2 hg2 hb0 hw0 TO hg hpf hpm hvc huc
  go_enter Tryz.func7, Tryz.ntmps7
  go_upto_region 1 with fail
  rw [W0.out]
  go_wp2_with fail
  refine (TV.out _ (Below.refl _ _)).mono ?_
  rintro e w1 ⟨rfl, hb1⟩
  have D1 := hid hb1
  clear hb1 c0 c1 c2
  obtain ⟨c0, c1, c2⟩ := C3.out _ D1.out
  go_wp2_with fail
  refine (BV.out _ D1.out).mono ?_
  rintro e w2 ⟨rfl, hb2⟩
  have D2 := hid (D1.out.trans (hb2.mono D1.out.size))
  clear hb2 c0 c1 c2
  go_wp2_with fail
  go_loopw [34] (fun x wr => ∃ q : Nat, q ≤ fs.length ∧ x = .int .i64 (q : Int) ∧ Hid ((fs.take q).all pf = true) ∧ Below w0.heap.size w0 wr) (fun x _ => fs.length - (intOf x).toNat)
  case atStart => exact ⟨0, Nat.zero_le _, rfl, hid (by simp), D2.out⟩
  case round =>
    obtain ⟨q, hq, rfl, HA, hnx⟩ := hrel
    have q0 : (0 : Int) ≤ (q : Int) := by omega
    have NX := hid hnx
    by_cases hlt : q < fs.length
    · have hltI : (q : Int) < (fs.length : Int) := by omega
      obtain ⟨f, hf⟩ := get_some hlt
      obtain ⟨fb, foff, rfl, hfd⟩ := VC.out q f hf
      obtain ⟨e0, e1⟩ := hfd wr hnx
      have MF := hid (List.mem_of_getElem? hf)
      have TK := hid (show (fs.take (q + 1)).all pf = pf f by rw [take_next hf, List.all_append, HA.out]; simp)
      have BX := hid (below_alloc wr (.cells #[.int .u32 (iv f.1), .int .u32 (iv f.2)] 49))
      have F2 := hid (fun (W : World) h => cells2 (w := wr) (a := .int .u32 (iv f.1)) (b := .int .u32 (iv f.2)) (t := 49) W h)
      obtain ⟨w3, hw3⟩ : ∃ w3 : World, wr.alloc (.cells #[.int .u32 (iv f.1), .int .u32 (iv f.2)] 49) = w3 := ⟨_, rfl⟩
      rw [hw3] at BX F2
      obtain ⟨bx, hbx⟩ : ∃ bx, wr.heap.size = bx := ⟨_, rfl⟩
      rw [hbx] at F2
      have HBX := hid hbx
      have W3 := hid hw3
      have D3 := hid (NX.out.trans (BX.out.mono NX.out.size))
      have HLT := hid hlt
      clear hf hfd hnx hlt hw3 hbx
      go_upto_region 10 with fail
      rw [W3.out, HBX.out]
      clear e0 e1
      obtain ⟨d0, d1⟩ := F2.out _ (Below.refl _ _)
      obtain ⟨c0, c1, c2⟩ := C3.out _ D3.out
      go_wp2_with fail
      refine (HO.out f _ MF.out D3.out).mono ?_
      rintro e w4 ⟨rfl, hb4⟩
      have D4 := hid (D3.out.trans (hb4.mono D3.out.size))
      clear hb4 c0 c1 c2 d0 d1
      cases hpf : pf f with
      | true =>
        rw [hpf] at TK
        clear hpf
        go_wp2_with fail
        go_roundw
        case rel => exact ⟨q + 1, by have := HLT.out; omega, by go_num, TK, D4.out⟩
        case measure => have := HLT.out; simp [intOf]; omega
      | false =>
        have RA := hid (show (fs.all pf && gs.all pm) = false by
          rw [show fs.all pf = false from by
            cases h : fs.all pf with
            | false => rfl
            | true => have := List.all_eq_true.1 h f MF.out; rw [hpf] at this; cases this]
          rfl)
        have BF := hid (B0.out.trans (D4.out.mono B0.out.size))
        clear hpf
        go_wp2_with fail
        go_ret2
        exact ⟨by rw [RA.out]; rfl, BF.out⟩
    · have hltI : ¬ (q : Int) < (fs.length : Int) := by omega
      have FA := hid (show fs.all pf = true by have h := HA.out; rwa [take_all hlt] at h)
      clear hnx hlt
      go_wp2_with fail
      go_loopw [49] (fun x ws => ∃ p : Nat, p ≤ gs.length ∧ x = .int .i64 (p : Int) ∧ Hid ((gs.take p).all pm = true) ∧ Below w0.heap.size w0 ws) (fun x _ => gs.length - (intOf x).toNat)
      case atStart => exact ⟨0, Nat.zero_le _, rfl, hid (by simp), NX.out⟩
      case round =>
        obtain ⟨p, hp, rfl, HB, hnx⟩ := hrel
        have p0 : (0 : Int) ≤ (p : Int) := by omega
        have NY := hid hnx
        by_cases hlt : p < gs.length
        · have hltI : (p : Int) < (gs.length : Int) := by omega
          obtain ⟨f, hf⟩ := get_some hlt
          obtain ⟨fb, foff, rfl, hfd⟩ := UC.out p f hf
          obtain ⟨e0, e1⟩ := hfd wr hnx
          have MF := hid (List.mem_of_getElem? hf)
          have TK := hid (show (gs.take (p + 1)).all pm = pm f by rw [take_next hf, List.all_append, HB.out]; simp)
          have BX := hid (below_alloc wr (.cells #[.int .u32 (iv f.1), .int .u32 (iv f.2)] 51))
          have F2 := hid (fun (W : World) h => cells2 (w := wr) (a := .int .u32 (iv f.1)) (b := .int .u32 (iv f.2)) (t := 51) W h)
          obtain ⟨w3, hw3⟩ : ∃ w3 : World, wr.alloc (.cells #[.int .u32 (iv f.1), .int .u32 (iv f.2)] 51) = w3 := ⟨_, rfl⟩
          rw [hw3] at BX F2
          obtain ⟨bx, hbx⟩ : ∃ bx, wr.heap.size = bx := ⟨_, rfl⟩
          rw [hbx] at F2
          have HBX := hid hbx
          have W3 := hid hw3
          have D3 := hid (NY.out.trans (BX.out.mono NY.out.size))
          have HLT := hid hlt
          clear hf hfd hnx hlt hw3 hbx
          go_upto_region 17 with fail
          rw [W3.out, HBX.out]
          clear e0 e1
          obtain ⟨d0, d1⟩ := F2.out _ (Below.refl _ _)
          obtain ⟨c0, c1, c2⟩ := C3.out _ D3.out
          go_wp2_with fail
          refine (HM.out f _ MF.out D3.out).mono ?_
          rintro e w4 ⟨rfl, hb4⟩
          have D4 := hid (D3.out.trans (hb4.mono D3.out.size))
          clear hb4 c0 c1 c2 d0 d1
          cases hpm : pm f with
          | true =>
            rw [hpm] at TK
            clear hpm
            go_wp2_with fail
            go_roundw
            case rel => exact ⟨p + 1, by have := HLT.out; omega, by go_num, TK, D4.out⟩
            case measure => have := HLT.out; simp [intOf]; omega
          | false =>
            have RA := hid (show (fs.all pf && gs.all pm) = false by
              rw [show gs.all pm = false from by
                cases h : gs.all pm with
                | false => rfl
                | true => have := List.all_eq_true.1 h f MF.out; rw [hpm] at this; cases this]
              simp)
            have BF := hid (B0.out.trans (D4.out.mono B0.out.size))
            clear hpm
            go_wp2_with fail
            go_ret2
            exact ⟨by rw [RA.out]; rfl, BF.out⟩
        · have hltI : ¬ (p : Int) < (gs.length : Int) := by omega
          have RA := hid (show (fs.all pf && gs.all pm) = true by have h := HB.out; rw [take_all hlt] at h; rw [FA.out, h]; rfl)
          have BF := hid (B0.out.trans (NY.out.mono B0.out.size))
          clear hnx hlt
          go_wp2_with fail
          go_ret2
          exact ⟨by rw [RA.out]; rfl, BF.out⟩

end Go.Proofs.YtcfcmalaabmceaaGreatDoor


/- Plain laws: what Holds and Satisfies reckon is what the dependencies say; what follows holds. No program is run here. -/
namespace Go.Proofs.YtcfcmalaabmceaaGreatDoor
open Go.RowKit
set_option linter.unusedVariables false
set_option linter.unusedSimpArgs false

theorem nodup_lenP {δ : Type} [DecidableEq δ] : ∀ {a b : List δ}, a.Nodup → (∀ s ∈ a, s ∈ b) → a.length ≤ b.length
  | [], _, _, _ => Nat.zero_le _
  | x :: a, b, hn, hs => by
    rw [List.nodup_cons] at hn
    have hx := hs x (by simp)
    have h := nodup_lenP (a := a) (b := b.erase x) hn.2 (fun s hsa => (List.mem_erase_of_ne (fun e => hn.1 (by rw [← e]; exact hsa))).2 (hs s (by simp [hsa])))
    rw [List.length_erase_of_mem hx] at h
    have := List.length_pos_of_mem hx
    rw [List.length_cons]
    omega
theorem pop_bitN : ∀ i : Fin 32, pop (bit i.val) = 1 := by decide +kernel
section
variable {β γ : Type}
/-- All pairs. -/
def prodL (A : List β) (B : List γ) : List (β × γ) := A.flatMap fun a => B.map fun b => (a, b)
theorem mem_prodL {A : List β} {B : List γ} {p : β × γ} : p ∈ prodL A B ↔ p.1 ∈ A ∧ p.2 ∈ B := by
  unfold prodL
  rw [List.mem_flatMap]
  constructor
  · rintro ⟨a, ha, h⟩
    obtain ⟨b, hb, rfl⟩ := List.mem_map.1 h
    exact ⟨ha, hb⟩
  · rintro ⟨ha, hb⟩
    exact ⟨p.1, ha, List.mem_map.2 ⟨p.2, hb, rfl⟩⟩
theorem prodL_length (A : List β) (B : List γ) : (prodL A B).length = A.length * B.length := by
  unfold prodL
  induction A with
  | nil => simp
  | cons a A ih => rw [List.flatMap_cons, List.length_append, List.length_map, ih, List.length_cons, Nat.succ_mul]; omega
theorem prodL_nodup : ∀ {A : List β} {B : List γ}, A.Nodup → B.Nodup → (prodL A B).Nodup
  | [], _, _, _ => List.nodup_nil
  | a :: A, B, hA, hB => by
    rw [List.nodup_cons] at hA
    unfold prodL
    rw [List.flatMap_cons, List.nodup_append]
    refine ⟨?_, prodL_nodup hA.2 hB, ?_⟩
    · exact hB.map (f := fun b => (a, b)) (fun x y h => fun e => h (Prod.mk.inj e).2)
    · intro x hx y hy e
      obtain ⟨b, _, rfl⟩ := List.mem_map.1 hx
      have := (mem_prodL (A := A) (B := B) (p := y)).1 hy
      rw [← e] at this
      exact hA.1 this.1
end
section
variable {α β γ : Type} [DecidableEq β] [DecidableEq γ]
theorem ded_len (f : α → β) (g : α → γ) : ∀ (l : List α), (∀ x ∈ l, ∀ y ∈ l, f x = f y ↔ g x = g y) → (dedK (l.map f)).length = (dedK (l.map g)).length := by
  have key : ∀ n, ∀ l : List α, l.length = n → (∀ x ∈ l, ∀ y ∈ l, f x = f y ↔ g x = g y) → (dedK (l.map f)).length = (dedK (l.map g)).length := by
    intro n
    induction n with
    | zero => intro l h _; rw [List.eq_nil_of_length_eq_zero h]; rfl
    | succ n ih =>
      intro l h hl
      rcases snoc_cases l with rfl | ⟨a, y, rfl⟩
      · simp at h
      · have hi := ih a (by simp at h; exact h) (fun x hx z hz => hl x (by simp [hx]) z (by simp [hz]))
        rw [List.map_append, List.map_append, List.map_cons, List.map_cons, List.map_nil, List.map_nil, dedK_snoc, dedK_snoc]
        unfold dedStep
        have hm : f y ∈ dedK (a.map f) ↔ g y ∈ dedK (a.map g) := by
          rw [mem_dedK, mem_dedK, List.mem_map, List.mem_map]
          constructor
          · rintro ⟨x, hx, e⟩
            exact ⟨x, hx, (hl x (by simp [hx]) y (by simp)).1 e⟩
          · rintro ⟨x, hx, e⟩
            exact ⟨x, hx, (hl x (by simp [hx]) y (by simp)).2 e⟩
        by_cases hh : f y ∈ dedK (a.map f)
        · rw [if_pos hh, if_pos (hm.1 hh), hi]
        · rw [if_neg hh, if_neg (fun h => hh (hm.2 h)), List.length_append, List.length_append, hi]; rfl
  exact fun l => key _ l rfl
/-- Different keys of each half: as many pairs as all, just where each pair is there. -/
theorem pairs_full {l : List α} (f : α → β) (g : α → γ) : (dedK (l.map f)).length * (dedK (l.map g)).length = (dedK (l.map fun x => (f x, g x))).length ↔ ∀ x ∈ l, ∀ y ∈ l, ∃ z ∈ l, f z = f x ∧ g z = g y := by
  have hsub : ∀ p ∈ dedK (l.map fun x => (f x, g x)), p ∈ prodL (dedK (l.map f)) (dedK (l.map g)) := by
    intro p hp
    rw [mem_dedK] at hp
    obtain ⟨x, hx, rfl⟩ := List.mem_map.1 hp
    rw [mem_prodL, mem_dedK, mem_dedK]
    exact ⟨List.mem_map.2 ⟨x, hx, rfl⟩, List.mem_map.2 ⟨x, hx, rfl⟩⟩
  have hn := prodL_nodup (dedK_nodup (l.map f)) (dedK_nodup (l.map g))
  have hd := dedK_nodup (l.map fun x => (f x, g x))
  rw [← prodL_length]
  constructor
  · intro h x hx y hy
    have hin : (f x, g y) ∈ prodL (dedK (l.map f)) (dedK (l.map g)) := by
      rw [mem_prodL, mem_dedK, mem_dedK]
      exact ⟨List.mem_map.2 ⟨x, hx, rfl⟩, List.mem_map.2 ⟨y, hy, rfl⟩⟩
    have hin2 : (f x, g y) ∈ dedK (l.map fun x => (f x, g x)) := by
      apply Classical.byContradiction
      intro hno
      have h1 := nodup_lenP (a := (f x, g y) :: dedK (l.map fun x => (f x, g x))) (b := prodL (dedK (l.map f)) (dedK (l.map g))) (List.nodup_cons.2 ⟨hno, hd⟩) (fun p hp => by
        rcases List.mem_cons.1 hp with rfl | hp
        · exact hin
        · exact hsub p hp)
      rw [List.length_cons] at h1
      omega
    rw [mem_dedK] at hin2
    obtain ⟨z, hz, e⟩ := List.mem_map.1 hin2
    exact ⟨z, hz, (Prod.mk.inj e).1, (Prod.mk.inj e).2⟩
  · intro h
    refine Nat.le_antisymm (nodup_lenP hn fun p hp => ?_) (nodup_lenP hd hsub)
    rw [mem_prodL, mem_dedK, mem_dedK] at hp
    obtain ⟨x, hx, e1⟩ := List.mem_map.1 hp.1
    obtain ⟨y, hy, e2⟩ := List.mem_map.1 hp.2
    obtain ⟨z, hz, h1, h2⟩ := h x hx y hy
    rw [mem_dedK]
    refine List.mem_map.2 ⟨z, hz, ?_⟩
    rw [h1, h2, e1, e2]
end
/-- A group is good where each left half goes with each right half. -/
theorem goodK_iff {T : List K4} (hJ : ∀ t ∈ T, ∀ s ∈ T, t.2.2.2 = s.2.2.2 ↔ t.2.1 = s.2.1 ∧ t.2.2.1 = s.2.2.1) (x : KS) : goodK T x = true ↔ ∀ t ∈ T, ∀ s ∈ T, t.1 = x → s.1 = x → ∃ r ∈ T, r.1 = x ∧ r.2.1 = t.2.1 ∧ r.2.2.1 = s.2.2.1 := by
  have hc : (colK T x 2).length = (dedK ((T.filter fun t => decide (t.1 = x)).map fun t => (t.2.1, t.2.2.1))).length := by
    unfold colK
    refine ded_len _ _ _ fun t ht s hs => ?_
    show t.2.2.2 = s.2.2.2 ↔ _
    rw [hJ t (List.mem_filter.1 ht).1 s (List.mem_filter.1 hs).1, Prod.mk.injEq]
  unfold goodK
  rw [decide_eq_true_iff, hc]
  have e0 : colK T x 0 = dedK ((T.filter fun t => decide (t.1 = x)).map fun t => t.2.1) := rfl
  have e1 : colK T x 1 = dedK ((T.filter fun t => decide (t.1 = x)).map fun t => t.2.2.1) := rfl
  rw [e0, e1, pairs_full]
  constructor
  · intro h t ht s hs e1 e2
    obtain ⟨r, hr, h1, h2⟩ := h t (List.mem_filter.2 ⟨ht, by simpa using e1⟩) s (List.mem_filter.2 ⟨hs, by simpa using e2⟩)
    have := List.mem_filter.1 hr
    exact ⟨r, this.1, by simpa using this.2, h1, h2⟩
  · intro h t ht s hs
    have h1 := List.mem_filter.1 ht
    have h2 := List.mem_filter.1 hs
    obtain ⟨r, hr, e1, e2, e3⟩ := h t h1.1 s h2.1 (by simpa using h1.2) (by simpa using h2.2)
    exact ⟨r, List.mem_filter.2 ⟨hr, by simpa using e1⟩, e2, e3⟩
theorem mvdT_iff {T : List K4} (hJ : ∀ t ∈ T, ∀ s ∈ T, t.2.2.2 = s.2.2.2 ↔ t.2.1 = s.2.1 ∧ t.2.2.1 = s.2.2.1) : mvdT T = true ↔ ∀ t ∈ T, ∀ s ∈ T, t.1 = s.1 → ∃ r ∈ T, r.1 = t.1 ∧ r.2.1 = t.2.1 ∧ r.2.2.1 = s.2.2.1 := by
  rw [mvdT_eq, List.all_eq_true]
  constructor
  · intro h t ht s hs e
    exact (goodK_iff hJ t.1).1 (h t.1 (mem_dedK.2 (List.mem_map.2 ⟨t, ht, rfl⟩))) t ht s hs rfl e.symm
  · intro h x hx
    refine (goodK_iff hJ x).2 fun t ht s hs e1 e2 => ?_
    obtain ⟨r, hr, h1, h2, h3⟩ := h t ht s hs (e1.trans e2.symm)
    exact ⟨r, hr, h1.trans e1, h2, h3⟩

/-! Rows. -/
def agA (r q : Row3) (a : Nat) : Prop := r.2.2.getD a noV = q.2.2.getD a noV
theorem agA_eq : AgE agA := ⟨fun _ _ => rfl, fun _ _ _ h => Eq.symm h, fun _ _ _ _ h k => Eq.trans h k⟩
theorem agS_map {r q : Row3} {s : S} : agS agA s r q ↔ (memN s 32).map (fun a => r.2.2.getD a noV) = (memN s 32).map fun a => q.2.2.getD a noV := by
  rw [List.map_inj_left]
  constructor
  · intro h a ha
    obtain ⟨h1, h2⟩ := mem_memN.1 ha
    exact h a h1 h2
  · intro h a h1 h2
    exact h a (mem_memN.2 ⟨h1, h2⟩)
/-- A row of n valid values. -/
def okR (n : Nat) (r : Row3) : Prop := r.2.2.length = n ∧ ∀ x ∈ r.2.2, okV x
theorem ok_get {n : Nat} {r : Row3} (h : okR n r) {s : S} (hn : n ≤ 32) (hs : sub s (fullN n)) : ∀ x ∈ (memN s 32).map (fun a => r.2.2.getD a noV), okV x := by
  intro x hx
  obtain ⟨a, ha, rfl⟩ := List.mem_map.1 hx
  have hal : a < r.2.2.length := by rw [h.1]; exact mem_full hn hs a ha
  rw [List.getD_eq_getElem?_getD, List.getElem?_eq_getElem hal]
  exact h.2 _ (List.getElem_mem _)
theorem kK_iff {n : Nat} {r q : Row3} (hr : okR n r) (hq : okR n q) (hn : n ≤ 16) {s : S} (hs : sub s (fullN n)) : kK r s = kK q s ↔ agS agA s r q := by
  rw [agS_map]
  constructor
  · intro h
    have l1 := kyB_len (xs := r.2.2) hr.2 (s := s) (by rw [hr.1]; exact mem_full (by omega) hs)
    have l2 := kyB_len (xs := q.2.2) hq.2 (s := s) (by rw [hq.1]; exact mem_full (by omega) hs)
    have h2 := mkKS_inj (by unfold maxLen; omega) (by unfold maxLen; omega) h
    exact keysB_inj (ok_get hr (by omega) hs) (ok_get hq (by omega) hs) (by simp) h2
  · intro h
    unfold kK kyB
    rw [h]
theorem k4_iff {n : Nat} {r q : Row3} (hr : okR n r) (hq : okR n q) (hn : n ≤ 16) {x y z : S} (hy : sub y (fullN n)) (hz : sub z (fullN n)) : (k4 x y z r).2.2.2 = (k4 x y z q).2.2.2 ↔ (k4 x y z r).2.1 = (k4 x y z q).2.1 ∧ (k4 x y z r).2.2.1 = (k4 x y z q).2.2.1 := by
  show mkKS _ = mkKS _ ↔ kK r y = kK q y ∧ kK r z = kK q z
  rw [kK_iff hr hq hn hy, kK_iff hr hq hn hz, agS_map, agS_map]
  constructor
  · intro h
    have a1 := kyB_len (xs := r.2.2) hr.2 (s := y) (by rw [hr.1]; exact mem_full (by omega) hy)
    have a2 := kyB_len (xs := q.2.2) hq.2 (s := y) (by rw [hq.1]; exact mem_full (by omega) hy)
    have b1 := kyB_len (xs := r.2.2) hr.2 (s := z) (by rw [hr.1]; exact mem_full (by omega) hz)
    have b2 := kyB_len (xs := q.2.2) hq.2 (s := z) (by rw [hq.1]; exact mem_full (by omega) hz)
    have h2 := mkKS_inj (by rw [List.length_append]; unfold maxLen; omega) (by rw [List.length_append]; unfold maxLen; omega) h
    unfold kyB keysB at h2
    rw [← List.flatMap_append, ← List.flatMap_append] at h2
    have h3 := keysB_inj (fun v hv => by
      rcases List.mem_append.1 hv with hv | hv
      · exact ok_get hr (by omega) hy v hv
      · exact ok_get hr (by omega) hz v hv) (fun v hv => by
      rcases List.mem_append.1 hv with hv | hv
      · exact ok_get hq (by omega) hy v hv
      · exact ok_get hq (by omega) hz v hv) (by simp) h2
    exact List.append_inj h3 (by simp)
  · rintro ⟨h1, h2⟩
    unfold kyB
    rw [h1, h2]
theorem agS_split {r q : Row3} {x y : S} : agS agA (x ||| y) r q ↔ agS agA x r q ∧ agS agA (y &&& ~~~ x) r q := by
  constructor
  · intro h
    exact ⟨fun a ha hx => h a ha (by rw [s_or, hx]; rfl), fun a ha hx => h a ha (by
      rw [s_diff _ _ ha, Bool.and_eq_true] at hx
      rw [s_or, hx.1]; simp)⟩
  · rintro ⟨h1, h2⟩ a ha hx
    cases hxa : x.getLsbD a with
    | true => exact h1 a ha hxa
    | false =>
      refine h2 a ha ?_
      rw [s_or, hxa, Bool.false_or] at hx
      rw [s_diff _ _ ha, hx, hxa]; rfl
/-- What Holds answers. -/
theorem mvdC_iff {n : Nat} {rs : List Row3} (hr : ∀ r ∈ rs, okR n r) (hn : n ≤ 16) {m : F} (h1 : sub m.1 (fullN n)) (h2 : sub m.2 (fullN n)) : mvdC n rs m = true ↔ mvdH agA rs (fullN n) m.1 m.2 := by
  have hy : sub (m.2 &&& ~~~ m.1) (fullN n) := fun i hi hx => h2 i hi (by rw [BitVec.getLsbD_and, Bool.and_eq_true] at hx; exact hx.1)
  have hz : sub (fullN n &&& ~~~ (m.1 ||| m.2)) (fullN n) := fun i hi hx => by rw [BitVec.getLsbD_and, Bool.and_eq_true] at hx; exact hx.1
  unfold mvdC
  rw [mvdT_iff (fun t ht s hs => by
    obtain ⟨r, hr', rfl⟩ := List.mem_map.1 ht
    obtain ⟨q, hq', rfl⟩ := List.mem_map.1 hs
    exact k4_iff (hr r hr') (hr q hq') hn hy hz)]
  constructor
  · intro h r hr' q hq' hx
    obtain ⟨u, hu, e1, e2, e3⟩ := h _ (List.mem_map.2 ⟨r, hr', rfl⟩) _ (List.mem_map.2 ⟨q, hq', rfl⟩) ((kK_iff (hr r hr') (hr q hq') hn h1).2 hx)
    obtain ⟨t, ht, rfl⟩ := List.mem_map.1 hu
    exact ⟨t, ht, agS_split.2 ⟨(kK_iff (hr t ht) (hr r hr') hn h1).1 e1, (kK_iff (hr t ht) (hr r hr') hn hy).1 e2⟩, (kK_iff (hr t ht) (hr q hq') hn hz).1 e3⟩
  · intro h u hu v hv e
    obtain ⟨r, hr', rfl⟩ := List.mem_map.1 hu
    obtain ⟨q, hq', rfl⟩ := List.mem_map.1 hv
    obtain ⟨t, ht, a1, a2⟩ := h r hr' q hq' ((kK_iff (hr r hr') (hr q hq') hn h1).1 e)
    have a3 := agS_split.1 a1
    exact ⟨_, List.mem_map.2 ⟨t, ht, rfl⟩, (kK_iff (hr t ht) (hr r hr') hn h1).2 a3.1, (kK_iff (hr t ht) (hr r hr') hn hy).2 a3.2, (kK_iff (hr t ht) (hr q hq') hn hz).2 a2⟩
theorem agB_agS {n : Nat} {r q : Row3} (hr : r.2.2.length = n) (hq : q.2.2.length = n) (hn : n ≤ 32) {s : S} (hs : sub s (fullN n)) : agB r.2.2 q.2.2 s = true ↔ agS agA s r q := by
  rw [agB_sub hr hq hn hs]
  constructor
  · intro h a ha hx
    have := h a ha hx
    rw [rowsS_get _ _ _ _ ha, Bool.and_eq_true] at this
    exact eqV_eq.1 this.2
  · intro h a ha hx
    rw [rowsS_get _ _ _ _ ha, Bool.and_eq_true, decide_eq_true_iff]
    exact ⟨full_le hs ha hx, eqV_eq.2 (h a ha hx)⟩
theorem satB_fdH {n : Nat} {rs : List Row3} (hr : ∀ r ∈ rs, okR n r) (hn : n ≤ 16) {f : F} (h1 : sub f.1 (fullN n)) (h2 : sub f.2 (fullN n)) : satB rs f = true ↔ fdH agA rs f.1 f.2 := by
  unfold satB
  rw [List.all_eq_true]
  constructor
  · intro h r hr' q hq' hx
    have := List.all_eq_true.1 (h r hr') q hq'
    unfold satR at this
    rw [(agB_agS (hr r hr').1 (hr q hq').1 (by omega) h1).2 hx] at this
    exact (agB_agS (hr r hr').1 (hr q hq').1 (by omega) h2).1 (by simpa using this)
  · intro h r hr'
    rw [List.all_eq_true]
    intro q hq'
    unfold satR
    cases hx : agB r.2.2 q.2.2 f.1 with
    | false => rfl
    | true => rw [(agB_agS (hr r hr').1 (hr q hq').1 (by omega) h2).2 (h r hr' q hq' ((agB_agS (hr r hr').1 (hr q hq').1 (by omega) h1).1 hx))]; rfl

/-! What follows. -/
theorem bitG {a i : Nat} (ha : a < 32) (hi : i < 32) : (bit a).getLsbD i = true ↔ i = a := by
  unfold bit
  rw [BitVec.getLsbD_shiftLeft, BitVec.getLsbD_one]
  simp
  omega
theorem allM_hold {n : Nat} {rs : List Row3} (hn : n ≤ 16) {fs gs : List F} (hf : ∀ f ∈ fs, sub f.1 (fullN n) ∧ sub f.2 (fullN n)) (hg : ∀ f ∈ gs, sub f.1 (fullN n) ∧ sub f.2 (fullN n)) (hF : ∀ f ∈ fs, fdH agA rs f.1 f.2) (hG : ∀ f ∈ gs, mvdH agA rs (fullN n) f.1 f.2) :
    ∀ m ∈ allM fs gs, sub m.1 (fullN n) ∧ sub m.2 (fullN n) ∧ mvdH agA rs (fullN n) m.1 m.2 := by
  intro m hm
  unfold allM at hm
  rcases List.mem_append.1 hm with hm | hm
  · exact ⟨(hg m hm).1, (hg m hm).2, hG m hm⟩
  · obtain ⟨f, hfm, h⟩ := List.mem_flatMap.1 hm
    obtain ⟨a, ha, rfl⟩ := List.mem_map.1 h
    obtain ⟨h32, hfa⟩ := mem_memN.1 ha
    have hfull := (hf f hfm).2 a h32 hfa
    refine ⟨(hf f hfm).1, fun i hi hb => ?_, fd_mvd agA_eq (hf f hfm).1 (hF f hfm) h32 hfa hfull⟩
    rw [(bitG h32 hi).1 hb]; exact hfull
theorem closB_cons (fs : List F) (b : S) (ys : List S) (x : S) : closB fs (b :: ys) x = closB fs ys (if closR fs b = true then x ||| b else x) := by
  unfold closB
  rw [List.foldl_cons]
theorem closB_mem {fs : List F} {a : Nat} : ∀ (ys : List S) (x : S), (closB fs ys x).getLsbD a = true → x.getLsbD a = true ∨ ∃ b ∈ ys, closR fs b = true ∧ b.getLsbD a = true := by
  intro ys
  induction ys with
  | nil =>
    intro x h
    unfold closB at h
    rw [List.foldl_nil] at h
    exact .inl h
  | cons b ys ih =>
    intro x h
    rw [closB_cons] at h
    rcases ih _ h with h | ⟨c, hc, h1, h2⟩
    · by_cases hb : closR fs b = true
      · rw [if_pos hb, s_or, Bool.or_eq_true] at h
        rcases h with h | h
        · exact .inl h
        · exact .inr ⟨b, by simp, hb, h⟩
      · rw [if_neg hb] at h
        exact .inl h
    · exact .inr ⟨c, by simp [hc], h1, h2⟩
theorem pop_one {b : S} (h : pop b = 1) {a i : Nat} (ha : a < 32) (hi : i < 32) (h1 : b.getLsbD a = true) (h2 : b.getLsbD i = true) : i = a := by
  apply Classical.byContradiction
  intro hne
  have hs : sub (bit a) b := fun j hj hb => by rw [(bitG ha hj).1 hb]; exact h1
  have hlt := sub_pop_lt hs (fun e => by
    have := congrArg (fun s : S => s.getLsbD i) e
    simp only [h2] at this
    exact hne ((bitG ha hi).1 this))
  rw [h, pop_bitN ⟨a, ha⟩] at hlt
  omega
/-- A block that is closed over is one attribute that some dependency determines from elsewhere. -/
theorem closR_one {fs : List F} {b : S} (h : closR fs b = true) {a : Nat} (ha : a < 32) (hb : b.getLsbD a = true) : (∀ i, i < 32 → (b.getLsbD i = true ↔ i = a)) ∧ ∃ f ∈ fs, f.2.getLsbD a = true ∧ f.1.getLsbD a = false := by
  unfold closR at h
  rw [Bool.and_eq_true, decide_eq_true_iff, List.any_eq_true] at h
  obtain ⟨hp, f, hf, hq⟩ := h
  have h1 : ∀ i, i < 32 → (b.getLsbD i = true ↔ i = a) := fun i hi => ⟨fun h => pop_one hp ha hi hb h, fun e => e ▸ hb⟩
  refine ⟨h1, f, hf, ?_⟩
  unfold closQ at hq
  rw [bne_iff_ne] at hq
  have : ¬ ∀ i, i < 32 → (f.2 &&& ~~~ f.1).getLsbD i = true → b.getLsbD i = false := fun h => hq (and_zero_iff.2 h)
  obtain ⟨i, hi⟩ := Classical.not_forall.1 this
  rw [Classical.not_imp, Classical.not_imp, Bool.not_eq_false] at hi
  obtain ⟨hi, h2, h3⟩ := hi
  obtain rfl := (h1 i hi).1 h3
  rw [s_diff _ _ hi, Bool.and_eq_true, Bool.not_eq_true'] at h2
  exact h2
/-- What ImpliesFD accepts holds. -/
theorem bfd_sound {n : Nat} {rs : List Row3} (hn : n ≤ 16) {fs gs : List F} (hf : ∀ f ∈ fs, sub f.1 (fullN n) ∧ sub f.2 (fullN n)) (hg : ∀ f ∈ gs, sub f.1 (fullN n) ∧ sub f.2 (fullN n)) (hF : ∀ f ∈ fs, fdH agA rs f.1 f.2) (hG : ∀ f ∈ gs, mvdH agA rs (fullN n) f.1 f.2)
    {g : F} (h1 : sub g.1 (fullN n)) (h2 : sub g.2 (fullN n)) {ys : List S} (hY : BlkR n (allM fs gs) g.1 ys) (hi : bfdB fs ys g = true) : fdH agA rs g.1 g.2 := by
  intro r hr q hq hx a ha hga
  unfold bfdB at hi
  rw [beq_iff_eq] at hi
  have hc : (closB fs ys g.1).getLsbD a = true := by
    cases h : (closB fs ys g.1).getLsbD a with
    | true => rfl
    | false =>
      have := congrArg (fun s : S => s.getLsbD a) hi
      simp only [s_diff _ _ ha, hga, h] at this
      simp at this
  rcases closB_mem ys g.1 hc with h | ⟨b, hb, hr', hba⟩
  · exact hx a ha h
  · obtain ⟨k1, f, hfm, k2, k3⟩ := closR_one hr' ha hba
    exact coal agA_eq ha (h2 a ha hga) k1 (blk_holds agA_eq h1 (allM_hold hn hf hg hF hG) (hY.1 b hb)) (hf f hfm).1 (hF f hfm) k2 k3 hr hq hx
/-- What ImpliesMVD accepts holds. -/
theorem bmvd_sound {n : Nat} {rs : List Row3} (hn : n ≤ 16) {fs gs : List F} (hf : ∀ f ∈ fs, sub f.1 (fullN n) ∧ sub f.2 (fullN n)) (hg : ∀ f ∈ gs, sub f.1 (fullN n) ∧ sub f.2 (fullN n)) (hF : ∀ f ∈ fs, fdH agA rs f.1 f.2) (hG : ∀ f ∈ gs, mvdH agA rs (fullN n) f.1 f.2)
    {g : F} (h1 : sub g.1 (fullN n)) (h2 : sub g.2 (fullN n)) {ys : List S} (hY : BlkR n (allM fs gs) g.1 ys) (hi : ys.any (cutB g.2) = false) : mvdH agA rs (fullN n) g.1 g.2 :=
  mvd_sound agA_eq h1 h2 (allM_hold hn hf hg hF hG) hY.1 hY.2.1 hi
/-- A block that is not split lies within each block that can be reached, or apart from it. -/
theorem blk_whole {ms : List F} {rest b c : S} (hb : sub b rest) (hs : ∀ m ∈ ms, spl m b = false) (hc : BlkP ms rest c) : sub b c ∨ ∀ i, i < 32 → b.getLsbD i = true → c.getLsbD i = false := by
  have cut : ∀ {m : F} {c : S}, m ∈ ms → spl m c = true → sub b c → sub b m.2 ∨ ∀ i, i < 32 → b.getLsbD i = true → m.2.getLsbD i = false := by
    intro m c hm hsp hbc
    have h := hs m hm
    have hap : (b &&& m.1 == 0#32) = true := by
      rw [beq_iff_eq, and_zero_iff]
      exact fun i hi hbi => spl_apart hsp (hbc i hi hbi)
    unfold spl at h
    rw [hap, Bool.true_and, Bool.and_eq_false_iff, Bool.not_eq_false', Bool.not_eq_false', beq_iff_eq, beq_iff_eq] at h
    rcases h with h | h
    · exact .inr (and_zero_iff.1 h)
    · left
      intro i hi hbi
      have := and_zero_iff.1 h i hi hbi
      rw [BitVec.getLsbD_not] at this
      simpa [hi] using this
  induction hc with
  | start => exact .inl hb
  | @inn c m hc hm hsp ih =>
    rcases ih with h | h
    · rcases cut hm hsp h with k | k
      · exact .inl fun i hi hbi => by rw [s_and, h i hi hbi, k i hi hbi]; rfl
      · exact .inr fun i hi hbi => by rw [s_and, k i hi hbi]; simp
    · exact .inr fun i hi hbi => by rw [s_and, h i hi hbi]; rfl
  | @out c m hc hm hsp ih =>
    rcases ih with h | h
    · rcases cut hm hsp h with k | k
      · exact .inr fun i hi hbi => by rw [s_diff _ _ hi, k i hi hbi]; simp
      · exact .inl fun i hi hbi => by rw [s_diff _ _ hi, h i hi hbi, k i hi hbi]; rfl
    · exact .inr fun i hi hbi => by rw [s_diff _ _ hi, h i hi hbi]; rfl
/-- What ImpliesFD accepts ImpliesMVD accepts. -/
theorem fd_then {n : Nat} {fs gs : List F} {g : F} {ys zs : List S} (hY : BlkR n (allM fs gs) g.1 ys) (hZ : BlkR n (allM fs gs) g.1 zs) (hi : bfdB fs ys g = true) : zs.any (cutB g.2) = false := by
  rw [List.any_eq_false]
  intro b hb hcut
  unfold cutB at hcut
  rw [Bool.and_eq_true, Bool.not_eq_true', Bool.not_eq_true', beq_eq_false_iff_ne, beq_eq_false_iff_ne] at hcut
  obtain ⟨hc1, hc2⟩ := hcut
  have : ¬ ∀ i, i < 32 → b.getLsbD i = true → g.2.getLsbD i = false := fun h => hc1 (and_zero_iff.2 h)
  obtain ⟨a, ha⟩ := Classical.not_forall.1 this
  rw [Classical.not_imp, Classical.not_imp, Bool.not_eq_false] at ha
  obtain ⟨h32, hba, hga⟩ := ha
  unfold bfdB at hi
  rw [beq_iff_eq] at hi
  have hc : (closB fs ys g.1).getLsbD a = true := by
    cases h : (closB fs ys g.1).getLsbD a with
    | true => rfl
    | false =>
      have := congrArg (fun s : S => s.getLsbD a) hi
      simp only [s_diff _ _ h32, hga, h] at this
      simp at this
  have hbr := blkP_sub (hZ.1 b hb)
  rcases closB_mem ys g.1 hc with h | ⟨c, hcm, hr', hca⟩
  · have := hbr a h32 hba
    rw [s_diff _ _ h32, h] at this
    simp at this
  · obtain ⟨k1, -⟩ := closR_one hr' h32 hca
    rcases blk_whole hbr (fun m hm => hZ.2.2.1 m hm b hb) (hY.1 c hcm) with h | h
    · apply hc2
      rw [and_zero_iff]
      intro i hi' hbi
      obtain rfl := (k1 i hi').1 (h i hi' hbi)
      rw [BitVec.getLsbD_not, hga]; simp
    · rw [h a h32 hba] at hca; cases hca

end Go.Proofs.YtcfcmalaabmceaaGreatDoor

