/- Texts that belong together, in one file. -/
import Derived.Test.YtcfcmalaabmceaaGreatDoorGPlain
import Derived.Test.YtcfcmalaabmceaaGreatDoorGMid
import Derived.Test.YtcfcmalaabmceaaGreatDoorGFd
import Derived.Test.YtcfcmalaabmceaaGreatDoorGKm2
import Derived.Test.YtcfcmalaabmceaaGreatDoorGSort
import Derived.Deep.DeepAppendRoom
import Derived.Test.YtcfcmalaabmceaaGreatDoorAfter
import Derived.Deep.RegionHeld3
/- Plain laws of dependency bases: how the blocks are divided. No program. -/
namespace Go.Proofs.YtcfcmalaabmceaaGreatDoor
open Go.RowKit
set_option linter.unusedVariables false
set_option linter.unusedSimpArgs false

/-- A block is divided by a dependency. -/
def spl (m : F) (b : S) : Bool := (b &&& m.1 == 0#32) && !(b &&& m.2 == 0#32) && !(b &&& ~~~ m.2 == 0#32)
/-- The blocks that can be reached. -/
inductive BlkP (ms : List F) (rest : S) : S → Prop
  | start : BlkP ms rest rest
  | inn {b : S} {m : F} : BlkP ms rest b → m ∈ ms → spl m b = true → BlkP ms rest (b &&& m.2)
  | out {b : S} {m : F} : BlkP ms rest b → m ∈ ms → spl m b = true → BlkP ms rest (b &&& ~~~ m.2)
def sizS (b : S) : Nat := (List.range 32).countP b.getLsbD
theorem sizS_le (b : S) : sizS b ≤ 32 := by unfold sizS; exact Nat.le_trans List.countP_le_length (by simp)
theorem sizS_pos {b : S} (h : b ≠ 0#32) : 1 ≤ sizS b := by
  unfold sizS
  rcases Nat.eq_zero_or_pos ((List.range 32).countP b.getLsbD) with e | e
  · exfalso
    apply h
    apply BitVec.eq_of_getLsbD_eq
    intro i hi
    rw [List.countP_eq_zero] at e
    have := e i (List.mem_range.2 hi)
    simp at this
    simp [this]
  · exact e
theorem countP_split (p q : Nat → Bool) (l : List Nat) : l.countP (fun i => p i && q i) + l.countP (fun i => p i && !q i) = l.countP p := by
  induction l with
  | nil => rfl
  | cons x l ih =>
    rw [List.countP_cons, List.countP_cons, List.countP_cons]
    cases p x <;> cases q x <;> simp <;> omega
theorem sizS_split (b r : S) : sizS (b &&& r) + sizS (b &&& ~~~ r) = sizS b := by
  unfold sizS
  rw [← countP_split b.getLsbD r.getLsbD]
  congr 1
  · exact List.countP_congr fun i hi => by simp [BitVec.getLsbD_and]
  · refine List.countP_congr fun i hi => ?_
    rw [List.mem_range] at hi
    simp [BitVec.getLsbD_and, BitVec.getLsbD_not, hi]
structure BlkI (ms : List F) (rest : S) (ys : List S) : Prop where
  blk : ∀ b ∈ ys, BlkP ms rest b
  pos : ∀ b ∈ ys, b ≠ 0#32
  cov : ∀ i, rest.getLsbD i = true → ∃ b ∈ ys, b.getLsbD i = true
  siz : (ys.map sizS).sum = sizS rest
  dis : ∀ (i j : Nat) (b c : S), ys[i]? = some b → ys[j]? = some c → i ≠ j → b &&& c = 0#32
theorem sum_len {ys : List S} (h : ∀ b ∈ ys, b ≠ 0#32) : ys.length ≤ (ys.map sizS).sum := by
  induction ys with
  | nil => simp
  | cons y ys ih =>
    rw [List.map_cons, List.sum_cons, List.length_cons]
    have h1 := sizS_pos (h y (by simp))
    have h2 := ih (fun b hb => h b (by simp [hb]))
    omega
theorem BlkI.len {ms : List F} {rest : S} {ys : List S} (h : BlkI ms rest ys) : ys.length ≤ 32 := by
  have h1 := sum_len h.pos
  rw [h.siz] at h1
  exact Nat.le_trans h1 (sizS_le _)
theorem BlkI.start {ms : List F} {rest : S} (h : rest ≠ 0#32) : BlkI ms rest [rest] :=
  ⟨fun b hb => by rw [List.mem_singleton] at hb; subst hb; exact .start, fun b hb => by rw [List.mem_singleton] at hb; subst hb; exact h, fun i hi => ⟨rest, by simp, hi⟩, by simp, fun i j b c hi hj hn => by
    have h1 := (List.getElem?_eq_some_iff.1 hi).1
    have h2 := (List.getElem?_eq_some_iff.1 hj).1
    simp at h1 h2
    omega⟩
theorem BlkI.nil {ms : List F} {rest : S} (h : rest = 0#32) : BlkI ms rest [] :=
  ⟨by simp, by simp, (fun i hi => by rw [h] at hi; simp at hi), by rw [h]; decide, fun i j b c hi _ _ => by simp at hi⟩
theorem mem_setAt {α : Type} {l : List α} {i : Nat} {x y : α} (h : y ∈ l.set i x) : y ∈ l ∨ y = x := by
  rcases List.mem_or_eq_of_mem_set h with h | h
  · exact .inl h
  · exact .inr h
theorem cut_at {α : Type} {l : List α} {i : Nat} {x : α} (h : l[i]? = some x) (y : α) : l = l.take i ++ x :: l.drop (i + 1) ∧ l.set i y = l.take i ++ y :: l.drop (i + 1) := by
  obtain ⟨hi, rfl⟩ := List.getElem?_eq_some_iff.1 h
  refine ⟨?_, by rw [List.set_eq_take_append_cons_drop, if_pos hi]⟩
  conv => lhs; rw [← List.take_append_drop i l, List.drop_eq_getElem_cons hi]
theorem set_app_at {α : Type} {l : List α} {i p : Nat} {y z v : α} (h : (l.set i y ++ [z])[p]? = some v) : (p = i ∧ v = y) ∨ (p = l.length ∧ v = z) ∨ (p ≠ i ∧ p < l.length ∧ l[p]? = some v) := by
  rcases Nat.lt_or_ge p l.length with hp | hp
  · rw [List.getElem?_append_left (by simpa using hp)] at h
    by_cases e : p = i
    · subst e
      rw [List.getElem?_set_self hp] at h
      exact .inl ⟨rfl, (Option.some.inj h).symm⟩
    · rw [List.getElem?_set_ne (fun e' => e e'.symm)] at h
      exact .inr (.inr ⟨e, hp, h⟩)
  · rw [List.getElem?_append_right (by simpa using hp)] at h
    have hq := (List.getElem?_eq_some_iff.1 h).1
    simp at hq
    have e : p = l.length := by omega
    subst e
    simp at h
    exact .inr (.inl ⟨rfl, h.symm⟩)
theorem and_zero_of {b c x : S} (h : b &&& c = 0#32) : (b &&& x) &&& c = 0#32 ∧ c &&& (b &&& x) = 0#32 := by
  have e : (b &&& x) &&& c = 0#32 := by
    apply BitVec.eq_of_getLsbD_eq
    intro i hi
    have e := congrArg (fun s : S => s.getLsbD i) h
    simp only [BitVec.getLsbD_and] at e ⊢
    cases hb : b.getLsbD i <;> cases hc : c.getLsbD i <;> simp_all
  exact ⟨e, by rw [BitVec.and_comm]; exact e⟩
theorem cut_apart (b x : S) : (b &&& x) &&& (b &&& ~~~ x) = 0#32 ∧ (b &&& ~~~ x) &&& (b &&& x) = 0#32 := by
  have e : (b &&& x) &&& (b &&& ~~~ x) = 0#32 := by
    apply BitVec.eq_of_getLsbD_eq
    intro i hi
    simp only [BitVec.getLsbD_and, BitVec.getLsbD_not]
    cases b.getLsbD i <;> cases x.getLsbD i <;> simp [hi]
  exact ⟨e, by rw [BitVec.and_comm]; exact e⟩
theorem BlkI.split {ms : List F} {rest : S} {ys : List S} (h : BlkI ms rest ys) {m : F} (hm : m ∈ ms) {i : Nat} {b : S} (hb : ys[i]? = some b) (hs : spl m b = true) : BlkI ms rest (ys.set i (b &&& m.2) ++ [b &&& ~~~ m.2]) := by
  have hbm := List.mem_of_getElem? hb
  have hs' := hs
  unfold spl at hs'
  simp only [Bool.and_eq_true, Bool.not_eq_true', beq_iff_eq, beq_eq_false_iff_ne] at hs'
  obtain ⟨⟨-, s2⟩, s3⟩ := hs'
  obtain ⟨c1, c2⟩ := cut_at hb (b &&& m.2)
  refine ⟨fun x hx => ?_, fun x hx => ?_, fun j hj => ?_, ?_, fun p q u v hp hq hpq => ?_⟩
  · rcases List.mem_append.1 hx with hx | hx
    · rcases mem_setAt hx with hx | rfl
      · exact h.blk x hx
      · exact .inn (h.blk b hbm) hm hs
    · rw [List.mem_singleton] at hx; subst hx; exact .out (h.blk b hbm) hm hs
  · rcases List.mem_append.1 hx with hx | hx
    · rcases mem_setAt hx with hx | rfl
      · exact h.pos x hx
      · exact s2
    · rw [List.mem_singleton] at hx; subst hx; exact s3
  · obtain ⟨x, hx, hxj⟩ := h.cov j hj
    have hj32 : j < 32 := by
      rcases Nat.lt_or_ge j 32 with h | h
      · exact h
      · rw [BitVec.getLsbD_of_ge _ _ h] at hj; cases hj
    rw [c1] at hx
    rcases List.mem_append.1 hx with hx | hx
    · exact ⟨x, by rw [c2]; simp [hx], hxj⟩
    · rcases List.mem_cons.1 hx with rfl | hx
      · cases hr : m.2.getLsbD j with
        | true => exact ⟨x &&& m.2, by rw [c2]; simp, by rw [BitVec.getLsbD_and, hxj, hr]; rfl⟩
        | false => exact ⟨x &&& ~~~ m.2, by simp, by rw [BitVec.getLsbD_and, BitVec.getLsbD_not, hxj, hr]; simp [hj32]⟩
      · exact ⟨x, by rw [c2]; simp [hx], hxj⟩
  · have e := h.siz
    have e2 := sizS_split b m.2
    rw [List.map_append, List.sum_append, c2, List.map_append, List.map_cons, List.sum_append, List.sum_cons]
    rw [c1, List.map_append, List.map_cons, List.sum_append, List.sum_cons] at e
    simp only [List.map_cons, List.map_nil, List.sum_cons, List.sum_nil]
    omega
  · rcases set_app_at hp with ⟨p1, rfl⟩ | ⟨p1, rfl⟩ | ⟨p1, p2, p3⟩ <;> rcases set_app_at hq with ⟨q1, rfl⟩ | ⟨q1, rfl⟩ | ⟨q1, q2, q3⟩
    · omega
    · exact (cut_apart b m.2).1
    · exact (and_zero_of (h.dis i q b v hb q3 (fun e => q1 e.symm))).1
    · exact (cut_apart b m.2).2
    · omega
    · exact (and_zero_of (h.dis i q b v hb q3 (fun e => q1 e.symm))).1
    · exact (and_zero_of (h.dis i p b u hb p3 (fun e => p1 e.symm))).2
    · exact (and_zero_of (h.dis i p b u hb p3 (fun e => p1 e.symm))).2
    · exact h.dis p q u v p3 q3 hpq
theorem BlkI.apart {ms : List F} {rest : S} {ys : List S} (h : BlkI ms rest ys) {b c : S} (hb : b ∈ ys) (hc : c ∈ ys) (hn : b ≠ c) : b &&& c = 0#32 := by
  obtain ⟨i, hi⟩ := List.mem_iff_getElem?.1 hb
  obtain ⟨j, hj⟩ := List.mem_iff_getElem?.1 hc
  refine h.dis i j b c hi hj (fun e => hn ?_)
  subst e
  rw [hi] at hj
  exact Option.some.inj hj
/-- What all adds: X ->> A for each attribute A of a functional dependency. -/
def allM (fs ms : List F) : List F := ms ++ fs.flatMap fun f => (memN f.2 32).map fun a => ((f.1, bit a) : F)
/-- A dependency of sets is not cut by a block. -/
def cutB (r b : S) : Bool := !(b &&& r == 0#32) && !(b &&& ~~~ r == 0#32)
theorem blk_lit {b : S} (h : BlkP [(1#32, 2#32), (2#32, 4#32)] 6#32 b) : b = 6#32 ∨ b = 2#32 ∨ b = 4#32 := by
  induction h with
  | start => exact .inl rfl
  | @inn b m _ hm hs ih =>
    simp only [List.mem_cons, List.not_mem_nil, or_false] at hm
    rcases hm with rfl | rfl <;> rcases ih with rfl | rfl | rfl <;> revert hs <;> decide
  | @out b m _ hm hs ih =>
    simp only [List.mem_cons, List.not_mem_nil, or_false] at hm
    rcases hm with rfl | rfl <;> rcases ih with rfl | rfl | rfl <;> revert hs <;> decide
theorem lit_cut {ys : List S} (h : ∀ b ∈ ys, BlkP [(1#32, 2#32), (2#32, 4#32)] 6#32 b) (hn : ∀ m ∈ [((1#32, 2#32) : F), (2#32, 4#32)], ∀ b ∈ ys, spl m b = false) : ys.any (cutB 4#32) = false := by
  rw [List.any_eq_false]
  intro b hb
  rcases blk_lit (h b hb) with rfl | rfl | rfl
  · have := hn (1#32, 2#32) (by simp) _ hb
    revert this; decide
  · decide
  · decide
theorem allM_lit : allM [(1#32, 2#32), (2#32, 4#32)] [] = [(1#32, 2#32), (2#32, 4#32)] := by decide +kernel

end Go.Proofs.YtcfcmalaabmceaaGreatDoor


/- The walks of basis: Valid, check, all. -/
namespace Go.Proofs.YtcfcmalaabmceaaGreatDoor
open Go.RowKit
set_option linter.unusedVariables false

theorem infoM : (Tryz.prog.info? 51).map (fun i => (i.zero, i.size, i.bytes)) = some (some (.agg #[.int .u32 0, .int .u32 0]), 2, 8) := by kernel_rfl
theorem undMs : Tryz.prog.underlying 39 = some (.slice 51) := by kernel_rfl
theorem later' {w a b : World} (h : Below w.heap.size w a) (k : Below a.heap.size a b) : Below w.heap.size w b := h.trans (k.mono h.size)
/-- slices.Clone. -/
theorem cloneM_any (xs : List F) (v : Value) (w : World) (hv : RdF w v xs) (h44 : xs.length < 2199023255552) :
    Calls Tryz.prog 50 #[v] w fun e w' => ∃ v', e = .returned v' ∧ w'.ownsRow w.heap.size 51 2 v' xs.length (xs.flatMap cF) ∧ Below w.heap.size w w' := by
  obtain ⟨ao, cap, rfl, h1, h2, h3⟩ := hv
  have heq := fun (a : Option Addr) (n c : Nat) (w : World) => Lib.run_eql_slice_nil (P := Tryz.prog) w 39 51 a n c 0 0 undMs
  cases ao with
  | none =>
    have hx : xs = [] := by
      cases xs with
      | nil => rfl
      | cons x l => obtain ⟨b, off, h, _⟩ := h3 (by simp); cases h
    subst hx
    clear h3
    go_enter Tryz.func50, Tryz.ntmps50
    go_wp2_with fail
    go_ret
    exact ⟨_, rfl, World.ownsRow_nil _ _ _ _, Below.refl _ _⟩
  | some a =>
    obtain ⟨i, hi, hz0, hz1, hz2⟩ := info_parts infoM
    have hlen := flat_length cF_length xs
    have hcells : ∀ (j : Nat) (u : Value), (xs.flatMap cF)[j]? = some u → w.cell? (a.add j) = some u := by
      intro j u hu
      have hj : j < (xs.flatMap cF).length := (List.getElem?_eq_some_iff.1 hu).1
      obtain ⟨b, off, e, _, hc⟩ := h3 (by omega)
      cases e
      rw [Addr.add_lit]
      exact hc j u hu
    have hcells2 : ∀ (j : Nat) (u : Value), (xs.flatMap cF)[j]? = some u → (w.alloc (.cells #[] 51)).cell? (a.add j) = some u := fun j u hu => World.cell?_alloc_lt _ _ _ (World.block_lt_of_cell? _ _ (hcells j u hu)) |>.trans (hcells j u hu)
    have HC := hid hcells2
    have hown := World.ownsRow_lit (size := 2) (e := 51) w #[] 0 (Nat.le_refl _) (Nat.zero_le _) rfl
    clear hcells hcells2 h3
    go_enter Tryz.func50, Tryz.ntmps50
    have s1 : ∀ u ∈ xs.flatMap cF, u.oneCell' = true := by
      intro u hu
      obtain ⟨x, _, hx⟩ := List.mem_flatMap.1 hu
      exact cF_one x u hx
    have S1 := hid s1
    have HL := hid hlen
    clear s1 hlen
    go_wp2_with (at_builtin; refine wpList_append_own _ rfl _ _ 39 rfl w.heap.size 51 i (.agg #[.int .u32 0, .int .u32 0]) 2 8 undMs hi hz0 hz1 hz2 rfl (by decide) _ _ _ rfl hown a xs.length cap (xs.flatMap cF) rfl HL.out HC.out S1.out (by unfold maxLen; omega) (by omega) (by simp) ?_)
    · intro v' w1 h1' hg _
      have B : Below w.heap.size w w1 := ((Below.refl _ w).alloc (Nat.le_refl _) _).grown hg (by simp) (fun k hk => by simp [Value.ownBlock] at hk; omega)
      have BB := hid B
      clear B hg
      have H := hid h1'
      clear h1'
      go_wp2_with fail
      go_ret
      exact ⟨_, rfl, by simpa using H.out, BB.out⟩

def sideM (x : F) (a : Nat) : F := (x.1, bit a)
def allX (f : F) : List F := (memN f.2 32).map (sideM f)
theorem allX_length (x : F) : (allX x).length ≤ 32 := by unfold allX; rw [List.length_map]; exact memN_length _ _
theorem flatAll_length (fs : List F) : (fs.flatMap allX).length ≤ 32 * fs.length := by
  induction fs with
  | nil => simp
  | cons f fs ih => rw [List.flatMap_cons, List.length_append, List.length_cons]; have := allX_length f; omega
theorem flatAll_next {fs : List F} {k : Nat} {f : F} (h : fs[k]? = some f) : (fs.take (k + 1)).flatMap allX = (fs.take k).flatMap allX ++ allX f := by
  rw [take_next h, List.flatMap_append]; simp
set_option maxHeartbeats 800000 in
set_option maxRecDepth 100000 in
theorem ball_any (fs gs : List F) (v u : Value) (w : World) (hT : Tab w) (hv : RdF w v fs) (hu : RdF w u gs) (hl : fs.length < 1000000) (hg : gs.length < 1000000) :
    Calls Tryz.prog 26 #[v, u] w fun e w' => ∃ v', e = .returned v' ∧ w'.ownsRow w.heap.size 51 2 v' (allM fs gs).length ((allM fs gs).flatMap cF) ∧ Below w.heap.size w w' := by
  have ME := hid (fun (s : S) (W : World) (h : Below w.heap.size w W) => amembers_any s W (hT.below h))
  obtain ⟨ao, cap, rfl, -, hc⟩ := hv.split
  have FC := hid hc
  have ONE := hid (show gs ++ fs.flatMap allX = allM fs gs from rfl)
  have CL := hid (cloneM_any gs u w hu (by omega))
  have HGL := hid hg
  clear hv hc hT hu hg
  simp only [enc_eq] at ME
  go_enter Tryz.func26, Tryz.ntmps26
  go_wp2_with fail
  refine CL.out.mono ?_
  rintro e w1 ⟨v1, rfl, ho1, hb1⟩
  have O1 := hid ho1
  have BB1 := hid hb1
  clear ho1 hb1
  go_wp2_with fail
  go_loopw [5, 14] (fun o i wr => ∃ k : Nat, k ≤ fs.length ∧ i = .int .i64 k ∧ wr.ownsRow w.heap.size 51 2 o (gs ++ (fs.take k).flatMap allX).length ((gs ++ (fs.take k).flatMap allX).flatMap cF) ∧ Below w.heap.size w wr) (fun _ i _ => fs.length - (intOf i).toNat)
  case atStart => exact ⟨0, Nat.zero_le _, rfl, by simpa using O1.out, BB1.out⟩
  case round =>
    obtain ⟨k, hk, rfl, hown, hnx⟩ := hrel
    obtain ⟨wo, rfl⟩ : ∃ wo : World, wo = wr := ⟨_, rfl⟩
    have hsz := hnx.size
    have hol : (gs ++ (fs.take k).flatMap allX).length ≤ 1000000 + 32 * k := by rw [List.length_append]; have := flatAll_length (fs.take k); have := HGL.out; simp at *; omega
    by_cases hlt : k < fs.length
    · obtain ⟨f, hf⟩ := get_some hlt
      obtain ⟨b, off, rfl, hfc⟩ := FC.out k f hf
      obtain ⟨e0, e1⟩ := hfc wo hnx
      have N := hid (show gs ++ (fs.take (k + 1)).flatMap allX = (gs ++ (fs.take k).flatMap allX) ++ allX f by rw [flatAll_next hf, List.append_assoc])
      have NS := hid (show allX f = (memN f.2 32).map (sideM f) from rfl)
      clear hfc hf
      generalize gs ++ (fs.take k).flatMap allX = out at *
      have hb1 := below_alloc wo (.cells #[.int .u32 (iv f.1), .int .u32 (iv f.2)] 49)
      have hc0 : (wo.alloc (.cells #[.int .u32 (iv f.1), .int .u32 (iv f.2)] 49)).cell? ⟨wo.heap.size, 0, none⟩ = some (.int .u32 (iv f.1)) := by simp
      have M := hid (ME.out (f.2) (wo.alloc (.cells #[.int .u32 (iv f.1), .int .u32 (iv f.2)] 49)) (hnx.trans (hb1.mono hsz)))
      have HB := hid hb1
      have HC0 := hid hc0
      clear hb1 hc0
      go_wp2_with fail
      refine M.out.mono ?_
      rintro e w2 ⟨v2, rfl, ho2, hb2⟩
      have hbo := later' HB.out hb2
      have hmo := own_below hown hbo
      have hbm := hnx.trans (hbo.mono hsz)
      have hcx : w2.cell? ⟨wo.heap.size, 0, none⟩ = some (.int .u32 (iv f.1)) := (hb2.cell (p := ⟨wo.heap.size, 0, none⟩) (by simp)).trans HC0.out
      have hlx : wo.heap.size < w2.heap.size := by have := hb2.size; simp at this; omega
      have hne : ∀ g, u5.ownBlock = some g → g < wo.heap.size := fun g hg => (hown.lt g hg).2
      have HX := hid (fun (W : World) (x : Value) (h : Grow1 w2 u5 W x) => (h.cell ⟨wo.heap.size, 0, none⟩ hlx (fun e => Nat.lt_irrefl _ (hne _ e.symm))).trans hcx)
      have hml : ∀ a ∈ memN (f.2) 32, a < 32 := fun a ha => (mem_memN.1 ha).1
      have hmn := memN_length (f.2) 32
      have HML := hid hml
      generalize memN (f.2) 32 = ms at *
      have HMS := hid (fun (W : World) (x : Value) (h : Grow1 w2 u5 W x) => RdE.of_owns (h.far ho2 (fun g h1 h2 => by have := hne g h1; have := (ho2.lt g h2).1; simp at this; omega)) (by omega))
      obtain ⟨mo, mcap, rfl, -, -⟩ := (RdE.of_owns ho2 (by omega)).split
      have HO := hid hmo
      have HBM := hid hbm
      clear hown hnx hmo hbm hbo hb2 ho2 hcx hlx hne hml HC0 HB M e0 e1
      have hs2 := HBM.out.size
      go_wp2_with fail
      go_loopw [5, 22] (fun o i wr => ∃ j : Nat, j ≤ ms.length ∧ i = .int .i64 j ∧ wr.ownsRow w.heap.size 51 2 o (out ++ (ms.take j).map (sideM f)).length ((out ++ (ms.take j).map (sideM f)).flatMap cF) ∧ Grow1 w2 u5 wr o) (fun _ i _ => ms.length - (intOf i).toNat)
      case atStart => exact ⟨0, Nat.zero_le _, rfl, by simpa using HO.out, Grow1.refl _ _⟩
      case round =>
        obtain ⟨j, hj, rfl, hown, hG⟩ := hrel
        have hsr := hG.size
        have hll : (out ++ (ms.take j).map (sideM f)).length ≤ out.length + j := by simp; omega
        by_cases hjl : j < ms.length
        · obtain ⟨a, ha⟩ := get_some hjl
          have ha32 := HML.out a (List.mem_of_getElem? ha)
          obtain ⟨mo', mcap', he, -, hmc⟩ := (HMS.out _ _ hG).split
          cases he
          obtain ⟨g, goff, rfl, hmd⟩ := hmc j a ha
          have em := hmd wr (Below.refl _ _)
          have T := hid (show out ++ (ms.take (j + 1)).map (sideM f) = (out ++ (ms.take j).map (sideM f)) ++ [sideM f a] by rw [take_next ha, List.map_append, List.append_assoc]; rfl)
          have a0 : (0 : Int) ≤ (a : Int) := by omega
          have hem : wr.cell? ⟨g, goff + j, none⟩ = some (.int .i64 (a : Int)) := em
          clear hmc hmd ha em
          generalize out ++ (ms.take j).map (sideM f) = ys at *
          go_wp2_with fail
          go_region_held3 (fun W => W.cell? ⟨wo.heap.size, 0, none⟩ = some (.int .u32 (iv f.1)))
            (first | exact HX.out _ _ hG.drew | exact HX.out _ _ (hG.alloc _).drew | exact HX.out _ _ (by assumption))
            ((refine step_pushCo (by rfl) _ _ 39 (by rfl) w.heap.size 51 (.agg #[.int .u32 0, .int .u32 0]) 2 8 undMs infoM rfl (by decide) (by decide) cF cF_length cF_one _ ys (by rfl) ((hown.alloc _).drew) ⟨wr.heap.size, 0, none⟩ (sideM f a) (by rfl) (cells_newFd _ (sideM f a)) (by omega) (by simp; omega) ?_; intro v' w3 hown' hgrow hob; have hG3 := (hG.alloc _).drew.push hgrow hob))
          clear hgrow hown hG hem hob
          go_wp2_with fail
          go_roundw
          case rel => exact ⟨j + 1, by omega, by go_num, by rw [T.out]; simpa using hown', hG3⟩
          case measure => simp [intOf]; omega
        · rw [take_all hjl, ← NS.out, ← N.out] at hown
          have hbw := hG.of_below HBM.out HO.out hs2
          clear hG HX HMS
          go_wp2_with fail
          go_roundw
          case rel => exact ⟨k + 1, by omega, by go_num, hown, hbw⟩
          case measure => simp [intOf]; omega
    · rw [take_all hlt, ONE.out] at hown
      have O2 := hid hown
      have B2 := hid hnx
      clear hown hnx hol
      go_wp2_with fail
      go_ret
      exact ⟨_, rfl, O2.out, B2.out⟩

/-- Valid, where both lists are. -/
theorem basVa_any (n : Nat) (fs gs : List F) (v u : Value) (w : World) (hv : RdF w v fs) (hu : RdF w u gs) (hn : n ≤ 16) (hval : validF (n : Int) fs = 0) (hl : gs.length ≤ 64) (hg : ∀ m ∈ gs, (m.1 ||| m.2) >>> n = 0#32) :
    Calls Tryz.prog 21 #[.int .i64 (n : Int), v, u] w fun e w' => e = .returned (.int .i64 0) ∧ Below w.heap.size w w' := by
  have VA := hid (validF_any (n : Int) fs v w hv)
  rw [hval] at VA
  obtain ⟨fo, fcap, rfl⟩ := hv.form
  obtain ⟨uo, ucap, rfl, -, hc⟩ := RdF.split hu
  have GC := hid hc
  have HG := hid hg
  have g0 : (gs.length : Int) ≤ 64 := by omega
  have g1 : decide ((gs.length : Int) > 64) = false := by rw [decide_eq_false_iff_not]; omega
  have n0 : (0 : Int) ≤ (n : Int) := by omega
  have n1 : (n : Int) ≤ 16 := by omega
  have n2 : (n : Int) < 32 := by omega
  clear hv hu hc hval hl hg hn
  go_enter Tryz.func21, Tryz.ntmps21
  go_wp2_with fail
  refine VA.out.mono ?_
  rintro e w1 ⟨rfl, hb1⟩
  have D1 := hid hb1
  clear hb1
  go_wp2_with fail
  go_loopw [21] (fun x wr => ∃ k : Nat, k ≤ gs.length ∧ x = .int .i64 (k : Int) ∧ Below w.heap.size w wr) (fun x _ => gs.length - (intOf x).toNat)
  case atStart => exact ⟨0, Nat.zero_le _, rfl, D1.out⟩
  case round =>
    obtain ⟨k, hk, rfl, hnx⟩ := hrel
    have k0 : (0 : Int) ≤ (k : Int) := by omega
    by_cases hlt : k < gs.length
    · have hltI : (k : Int) < (gs.length : Int) := by omega
      obtain ⟨m, hm⟩ := get_some hlt
      obtain ⟨b, off, rfl, hd⟩ := GC.out k m hm
      obtain ⟨e0, e1⟩ := hd wr hnx
      have SH := HG.out m (List.mem_of_getElem? hm)
      have B2 := hid (hnx.trans ((below_alloc wr (.cells #[.int .u32 (iv m.1), .int .u32 (iv m.2)] 51)).mono hnx.size))
      have HLT := hid hlt
      clear hd hm hnx hlt
      go_wp2_with fail
      go_roundw
      case rel => exact ⟨k + 1, by have := HLT.out; omega, by go_num, B2.out⟩
      case measure => have := HLT.out; simp [intOf]; omega
    · have hltI : ¬ (k : Int) < (gs.length : Int) := by omega
      have NX := hid hnx
      clear hnx
      go_wp2_with fail
      go_ret
      exact ⟨rfl, NX.out⟩
theorem basCk_any (n : Nat) (fs gs : List F) (v u : Value) (s : S) (w : World) (hv : RdF w v fs) (hu : RdF w u gs) (hn : n ≤ 16) (hval : validF (n : Int) fs = 0) (hl : gs.length ≤ 64) (hg : ∀ m ∈ gs, (m.1 ||| m.2) >>> n = 0#32) (hs : s >>> n = 0#32) :
    Calls Tryz.prog 23 #[.int .i64 (n : Int), v, u, .int .u32 (iv s)] w fun e w' => e = .returned (.int .i64 0) ∧ Below w.heap.size w w' := by
  have VA := hid (basVa_any n fs gs v u w hv hu hn hval hl hg)
  have n0 : (0 : Int) ≤ (n : Int) := by omega
  have n1 : (n : Int) ≤ 16 := by omega
  have n2 : (n : Int) < 32 := by omega
  clear hv hu hn hval hl hg
  go_enter Tryz.func23, Tryz.ntmps23
  go_wp2_with fail
  refine VA.out.mono ?_
  rintro e w1 ⟨rfl, hb1⟩
  have D1 := hid hb1
  clear hb1
  go_wp2_with fail
  go_ret
  exact ⟨rfl, D1.out⟩

end Go.Proofs.YtcfcmalaabmceaaGreatDoor


/- The walk of basis.blocks. -/
namespace Go.Proofs.YtcfcmalaabmceaaGreatDoor
open Go.RowKit
set_option linter.unusedVariables false
set_option linter.unusedSimpArgs false

/-- append, and that the old row stays as it is where a new one is made. -/
theorem run_append_far {P : Program} (w : World) (base : Nat) (t ty e : TypeId) (i : TypeInfo) (z : Value) (size bytes : Nat) (ht : P.underlying t = some (.slice e)) (hi : P.info? e = some i) (hz : i.zero = some z)
    (hsize : i.size = size) (hby : i.bytes = bytes) (hzs : z.cells.size = size) (hsz : 0 < size) (v : Value) (n : Nat) (xs : List Value) (hown : w.ownsRow base e size v n xs)
    (a : Addr) (m c : Nat) (news : List Value) (hl : news.length = m * size) (hnews : ∀ j u, news[j]? = some u → w.cell? (a.add j) = some u) (h1 : ∀ u ∈ news, u.oneCell' = true)
    (h63 : n + m ≤ maxLen) (hbytes : (n + m) * bytes ≤ 140737488355328) (hbase : base ≤ w.heap.size) :
    ∃ v' w', (Builtin.append_ #[t, t] ty #[v, .slice (some a) m c]).run P w = .ok v' w' ∧ w'.ownsRow base e size v' (n + m) (xs ++ news) ∧ w.grownBy w' v.ownBlock ∧ (v'.ownBlock = v.ownBlock ∨ v'.ownBlock = some w.heap.size) ∧ (v'.ownBlock = v.ownBlock ∨ w.grownBy w' none) := by
  obtain ⟨v', w', hr, h2, h3, -, h5⟩ := run_append_own_at (P := P) w base t ty e i z size bytes ht hi hz hsize hby hzs hsz v n xs hown a m c news hl hnews h1 h63 hbytes hbase
  refine ⟨v', w', hr, h2, h3, h5, ?_⟩
  rcases hown.2 with ⟨rfl, rfl⟩ | ⟨g, cap, cur, rfl, hbg, hg, hnc, hcm, hcs, htake⟩
  · exact .inr h3
  · by_cases hroom : n + m ≤ cap
    · obtain ⟨w2, hr2, -⟩ := run_append_own_spare (P := P) w base t ty e i size ht hi hsize g n cap xs hown a m c news hl hnews h1 hroom
      rw [hr] at hr2
      injection hr2 with e1 _
      exact .inl (by rw [e1]; rfl)
    · subst hsize
      subst hby
      have hsmall : n + m ≤ 9223372036854775807 := by simp only [maxLen] at h63; omega
      have hr2 := run_append_grow (P := P) w t ty e i z ht hi hz ⟨g, 0, none⟩ n cap xs hown.1 (hown.cells (g := g) rfl) a m c news hl hnews (by omega) (by omega) (growslice_fits (by omega) hbytes)
      rw [hr] at hr2
      injection hr2 with _ e2
      exact .inr (by rw [e2]; exact ⟨rfl, rfl, rfl, by simp, fun k hk _ => heap_alloc_old w.drew _ hk⟩)
theorem wp_append_far {P : Program} (w : World) {o : Oper} {a : Act} {K : Act → World → Prop} {Q : Exit → Act → World → Prop} (s x : Operand) (t : TypeId)
    (ho : o.op = .call { callee := .builtin .append, args := #[s, x], argTypes := #[t, t] })
    (base : Nat) (e : TypeId) (i : TypeInfo) (z : Value) (size bytes : Nat) (ht : P.underlying t = some (.slice e)) (hi : P.info? e = some i) (hz : i.zero = some z)
    (hsize : i.size = size) (hby : i.bytes = bytes) (hzs : z.cells.size = size) (hsz : 0 < size) (v : Value) (n : Nat) (xs : List Value) (hs : a.eval s = v) (hown : w.ownsRow base e size v n xs)
    (ad : Addr) (m c : Nat) (news : List Value) (hx : a.eval x = .slice (some ad) m c) (hl : news.length = m * size) (hnews : ∀ j u, news[j]? = some u → w.cell? (ad.add j) = some u) (h1 : ∀ u ∈ news, u.oneCell' = true)
    (h63 : n + m ≤ maxLen) (hbytes : (n + m) * bytes ≤ 140737488355328) (hbase : base ≤ w.heap.size)
    (h : ∀ v' w', w'.ownsRow base e size v' (n + m) (xs ++ news) → w.grownBy w' v.ownBlock → (v'.ownBlock = v.ownBlock ∨ v'.ownBlock = some w.heap.size) → (v'.ownBlock = v.ownBlock ∨ w.grownBy w' none) → K (a.put o.dst v') w') : o.wp P a w K Q := by
  obtain ⟨v', w', hr, h2, h3, h4, h5⟩ := run_append_far (P := P) w base t o.type e i z size bytes ht hi hz hsize hby hzs hsz v n xs hown ad m c news hl hnews h1 h63 hbytes hbase
  unfold Oper.wp execOp
  simp only [ho, resolve, invoke, builtin, Sem.run_bind, Sem.run_pure, Result.andThen_ok, List.map_toArray, List.map_cons, List.map_nil, hs, hx, hr]
  exact h v' w' h2 h3 h4 h5
theorem wpList_pushFar {P : Program} {w : World} {ops : Array Oper} {rest : List Oper} {o : Oper} {a : Act} {Q : Exit → Act → World → Prop} (hgd : o.guard = none) (s x : Operand) (t : TypeId)
    (ho : o.op = .call { callee := .builtin .append, args := #[s, x], argTypes := #[t, t] })
    (B : Nat) (e : TypeId) (z : Value) (bytes : Nat) (ht : P.underlying t = some (.slice e)) (hinfo : (P.info? e).map (fun i => (i.zero, i.size, i.bytes)) = some (some z, 1, bytes)) (hz : z.cells.size = 1) (hb8 : bytes ≤ 64)
    (v : Value) (xs : List S) (hs : a.eval s = v) (hown : w.ownsRow B e 1 v xs.length (xs.map enc))
    (ad : Addr) (y : S) (hx : a.eval x = .slice (some ad) 1 1) (hy : w.cell? (ad.add 0) = some (enc y)) (hl : xs.length < 2199023255552) (hB : B ≤ w.heap.size)
    (h : ∀ v' w', w'.ownsRow B e 1 v' (xs ++ [y]).length ((xs ++ [y]).map enc) → w.grownBy w' v.ownBlock → (v'.ownBlock = v.ownBlock ∨ v'.ownBlock = some w.heap.size) → (v'.ownBlock = v.ownBlock ∨ w.grownBy w' none) → wpList P ops Q rest (a.put o.dst v') w') : wpList P ops Q (o :: rest) a w := by
  obtain ⟨i, hi, hz0, hz1, hz2⟩ := info_parts hinfo
  refine wpList_plain hgd fun _ hK => wp_append_far w s x t ho B e i z 1 bytes ht hi hz0 hz1 hz2 hz (by decide) v xs.length (xs.map enc) hs hown ad 1 1 [enc y] hx (by simp) ?_ ?_ ?_ ?_ hB ?_
  · intro j u hj
    have : j < 1 := (List.getElem?_eq_some_iff.1 hj).1
    obtain rfl : j = 0 := by omega
    simp at hj; subst hj; exact hy
  · intro u hu; simp at hu; rw [hu]; rfl
  · unfold maxLen; omega
  · refine Nat.le_trans (Nat.mul_le_mul_left _ hb8) ?_; omega
  · intro v' w' h1 h2 h3 h4
    exact hK _ _ (h v' w' (by simpa using h1) h2 h3 h4)
/-- The slice that a range goes over: from its i-th element on it reads as the list does now. -/
def HdrO (W : World) (ho : Option Addr) (n0 i : Nat) (ys : List S) : Prop := ∀ (j : Nat) (b : S), i ≤ j → j < n0 → ys[j]? = some b → ∃ hb, ho = some ⟨hb, 0, none⟩ ∧ W.cell? ⟨hb, j, none⟩ = some (enc b)
theorem HdrO.next {W : World} {ho : Option Addr} {n0 i : Nat} {ys : List S} (h : HdrO W ho n0 i ys) : HdrO W ho n0 (i + 1) ys := fun j b hj h2 h3 => h j b (by omega) h2 h3
theorem HdrO.below {W W' : World} {ho : Option Addr} {n0 i : Nat} {ys : List S} (h : HdrO W ho n0 i ys) (hb : Below W.heap.size W W') : HdrO W' ho n0 i ys := fun j b hj h2 h3 => by
  obtain ⟨p, e, hc⟩ := h j b hj h2 h3
  exact ⟨p, e, (hb.cell (p := ⟨p, j, none⟩) (World.block_lt_of_cell? _ _ hc)).trans hc⟩
theorem HdrO.store {W : World} {ho : Option Addr} {n0 i ob : Nat} {ys : List S} {y : S} {v : Value} (h : HdrO W ho n0 i ys) : HdrO (W.setCell ⟨ob, i, none⟩ v) ho n0 (i + 1) (ys.set i y) := fun j b hj h2 h3 => by
  rw [List.getElem?_set_ne (by omega)] at h3
  obtain ⟨p, e, hc⟩ := h j b (by omega) h2 h3
  exact ⟨p, e, (World.cell?_setCell_other _ _ _ _ (by simp only [ne_eq, Addr.mk.injEq, not_and]; omega)).trans hc⟩
theorem HdrO.push {W W' : World} {ho : Option Addr} {n0 i B : Nat} {e : TypeId} {ys : List S} {y : S} {v v' : Value} (h : HdrO W ho n0 i ys) (hn : n0 ≤ ys.length) (hg : W.grownBy W' v.ownBlock) (hv : v'.ownBlock = v.ownBlock ∨ W.grownBy W' none)
    (hown : W'.ownsRow B e 1 v' (ys ++ [y]).length ((ys ++ [y]).map enc)) : HdrO W' ho n0 i (ys ++ [y]) := fun j b hj h2 h3 => by
  have h3' := h3
  rw [List.getElem?_append_left (by omega)] at h3'
  obtain ⟨p, ep, hc⟩ := h j b hj h2 h3'
  refine ⟨p, ep, ?_⟩
  have hlt := World.block_lt_of_cell? _ _ hc
  by_cases hpe : some p = v.ownBlock
  · rcases hv with hv | hv
    · obtain ⟨g, cap, rfl, -, -⟩ := hown.form (by simp)
      have : g = p := by
        rw [← hpe] at hv
        exact Option.some.inj hv
      subst this
      rw [hown.cellAt j (by rw [List.length_append]; simp; omega), List.getElem?_map, h3]; rfl
    · exact (hv.cell_far ⟨p, j, none⟩ hlt (by simp)).trans hc
  · exact (hg.cell_far ⟨p, j, none⟩ hlt hpe).trans hc
def lenV : Value → Nat | .slice _ n _ => n | _ => 0
def muB : Value → Value → Nat | o, .bool true => 34 - lenV o | _, _ => 0
theorem muB_true (o : Value) : muB o (.bool true) = 34 - lenV o := rfl
theorem muB_false (o : Value) : muB o (.bool false) = 0 := rfl

/-- What blocks returns. -/
def BlkR (n : Nat) (ms : List F) (x : S) (ys : List S) : Prop := (∀ b ∈ ys, BlkP ms (fullN n &&& ~~~ x) b) ∧ (∀ i, (fullN n &&& ~~~ x).getLsbD i = true → ∃ b ∈ ys, b.getLsbD i = true) ∧ (∀ m ∈ ms, ∀ b ∈ ys, spl m b = false) ∧ (∀ b ∈ ys, ∀ c ∈ ys, b ≠ c → b &&& c = 0#32) ∧ ∀ b ∈ ys, b ≠ 0#32
theorem spl_false {m : F} {b : S} : spl m b = false ↔ (b &&& m.1 == 0#32) = false ∨ (b &&& m.1 == 0#32) = true ∧ (b &&& m.2 != 0#32) = false ∨ (b &&& m.1 == 0#32) = true ∧ (b &&& m.2 != 0#32) = true ∧ (b &&& ~~~ m.2 != 0#32) = false := by
  unfold spl bne
  cases (b &&& m.1 == 0#32) <;> cases (b &&& m.2 == 0#32) <;> cases (b &&& ~~~ m.2 == 0#32) <;> simp
theorem spl_true {m : F} {b : S} (h : spl m b = true) : (b &&& m.1 == 0#32) = true ∧ (b &&& m.2 != 0#32) = true ∧ (b &&& ~~~ m.2 != 0#32) = true := by
  unfold spl at h
  unfold bne
  cases h1 : (b &&& m.1 == 0#32) <;> cases h2 : (b &&& m.2 == 0#32) <;> cases h3 : (b &&& ~~~ m.2 == 0#32) <;> simp_all
set_option maxHeartbeats 6400000 in
set_option maxRecDepth 100000 in
theorem bblocks_any (n : Nat) (ms : List F) (u : Value) (x : S) (w : World) (hu : RdF w u ms) (hn : n < 32) (hml : ms.length ≤ 10000) :
    Calls Tryz.prog 25 #[.int .i64 (n : Int), u, .int .u32 (iv x)] w fun e w' => ∃ (v' : Value) (ys : List S), e = .returned v' ∧ w'.ownsRow w.heap.size 47 1 v' ys.length (ys.map enc) ∧ BlkR n ms x ys ∧ ys.length ≤ 32 ∧ Below w.heap.size w w' := by
  obtain ⟨mo, mcap, rfl, -, hmc⟩ := RdF.split hu
  have MC := hid hmc
  have OD := hid (fun (xs : List S) (v : Value) (W : World) (h : RdE enc W v xs) (h2 : xs.length ≤ 32) => aorder_any xs v W h (by omega))
  have n0 : (0 : Int) ≤ (n : Int) := by omega
  have n1 : (n : Int) < 32 := by omega
  have hml' : (ms.length : Int) ≤ 10000 := by omega
  obtain ⟨rest, hrest⟩ : ∃ rest : S, (1#32 <<< n - 1#32) &&& ~~~ x = rest := ⟨_, rfl⟩
  have RS := hid (show BlkR n ms x = fun ys => (∀ b ∈ ys, BlkP ms rest b) ∧ (∀ i, rest.getLsbD i = true → ∃ b ∈ ys, b.getLsbD i = true) ∧ (∀ m ∈ ms, ∀ b ∈ ys, spl m b = false) ∧ (∀ b ∈ ys, ∀ c ∈ ys, b ≠ c → b &&& c = 0#32) ∧ ∀ b ∈ ys, b ≠ 0#32 by
    unfold BlkR
    rw [← shl_fullM hn, hrest])
  have HR := hid hrest
  clear hu hmc hn hml
  have W0 := hid (Below.refl w.heap.size w)
  rcases hr0 : (rest == 0#32) with _ | _
  rotate_left
  have hr1 : ((1#32 <<< n - 1#32) &&& ~~~ x != 0#32) = false := by rw [hrest]; unfold bne; rw [hr0]; rfl
  have BI0 := hid (BlkI.nil (ms := ms) (rest := rest) (beq_iff_eq.1 hr0))
  have BB1 := hid (Below.refl w.heap.size w)
  have OS := hid (show w.ownsRow w.heap.size 47 1 (.slice none 0 0) ([] : List S).length (([] : List S).map enc) from World.ownsRow_nil _ _ _ _)
  clear hrest hr0
  go_enter Tryz.func25, Tryz.ntmps25
  go_wp2_with fail
  rotate_left
  have hr1 : ((1#32 <<< n - 1#32) &&& ~~~ x != 0#32) = true := by rw [hrest]; unfold bne; rw [hr0]; rfl
  have BI0 := hid (BlkI.start (ms := ms) (rest := rest) (beq_eq_false_iff_ne.1 hr0))
  clear hrest hr0
  go_enter Tryz.func25, Tryz.ntmps25
  go_wp2_with (at_builtin; refine wpList_pushFar rfl _ _ 66 rfl w.heap.size 47 (.int .u32 0) 4 undSets infoSet rfl (by decide) _ ([] : List S) rfl (World.ownsRow_nil _ _ _ _) ⟨w.heap.size, 0, none⟩ ((1#32 <<< n - 1#32) &&& ~~~ x) rfl cell_new (by simp) (by simp) ?_)
  intro v1 w1 ho1 hg1 hv1 hf1
  have BB1 := hid (show Below w.heap.size w w1 from ((Below.refl w.heap.size w).alloc (Nat.le_refl _) (.cells #[.int .u32 (iv ((1#32 <<< n - 1#32) &&& ~~~ x))] 47)).grown hg1 (by simp) (fun k hk => by cases hk))
  have OS := hid (show w1.ownsRow w.heap.size 47 1 v1 [rest].length ([rest].map enc) by rw [← HR.out]; simpa using ho1)
  clear ho1 hg1 hv1 hf1 hr1
  go_wp2_with fail
  all_goals
    go_loopw [7, 9] (fun o ag wr => ∃ (ys : List S) (g : Bool), ag = .bool g ∧ wr.ownsRow w.heap.size 47 1 o ys.length (ys.map enc) ∧ Hid (BlkI ms rest ys) ∧ Hid (g = false → ∀ m ∈ ms, ∀ b ∈ ys, spl m b = false) ∧ Below w.heap.size w wr) (fun o ag _ => muB o ag)
    case atStart => exact ⟨_, true, rfl, OS.out, BI0, hid (fun h => by cases h), BB1.out⟩
    case round =>
      obtain ⟨ys, g, rfl, hown, BI, HG, hnx⟩ := hrel
      cases g with
      | false =>
        have RE := hid (RdE.of_owns hown (by have := BI.out.len; omega))
        have NX := hid hnx
        have YL := hid BI.out.len
        clear hown hnx
        go_wp2_with fail
        refine (OD.out ys _ wr RE.out YL.out).mono ?_
        rintro e w2 ⟨v2, zs, rfl, ho2, hz2, hl2, hb2⟩
        have O2 := hid (own_mono ho2 NX.out.size)
        have B2 := hid (NX.out.trans (hb2.mono NX.out.size))
        have HZ := hid hz2
        have HL := hid hl2
        clear ho2 hb2 hz2 hl2
        go_wp2_with fail
        go_ret
        exact ⟨_, zs, rfl, O2.out, by rw [RS.out]; exact ⟨fun b hb => BI.out.blk b ((HZ.out.2 b).1 hb), fun i hi => by obtain ⟨b, hb, h⟩ := BI.out.cov i hi; exact ⟨b, (HZ.out.2 b).2 hb, h⟩, fun m hm b hb => HG.out (by first | rfl | trivial) m hm b ((HZ.out.2 b).1 hb), fun b hb c hc hn => BI.out.apart ((HZ.out.2 b).1 hb) ((HZ.out.2 c).1 hc) hn, fun b hb => BI.out.pos b ((HZ.out.2 b).1 hb)⟩, Nat.le_trans HL.out YL.out, B2.out⟩
      | true =>
        obtain ⟨len1, hlen1⟩ : ∃ len1, ys.length = len1 := ⟨_, rfl⟩
        have L1 := hid hlen1
        have LV := hid (show lenV u7 = len1 by
          rw [← hlen1]
          rcases hown.2 with ⟨h1, h2⟩ | ⟨g', cap', cur, hv, _⟩
          · rw [h1, h2]; rfl
          · rw [hv]; rfl)
        have O1 := hid hown
        have NX1 := hid hnx
        clear hown hnx hlen1 HG
        go_wp2_with fail
        go_loopw [7, 9, 28] (fun o ag idx wr => ∃ (j : Nat) (ys : List S) (g : Bool), j ≤ ms.length ∧ idx = .int .i64 (j : Int) ∧ ag = .bool g ∧ wr.ownsRow w.heap.size 47 1 o ys.length (ys.map enc) ∧ Hid (BlkI ms rest ys) ∧ Hid (len1 ≤ ys.length) ∧ Hid (g = true → len1 < ys.length) ∧ Hid (g = false → ys.length = len1 ∧ ∀ m ∈ ms.take j, ∀ b ∈ ys, spl m b = false) ∧ Below w.heap.size w wr) (fun _ _ idx _ => ms.length - (intOf idx).toNat)
        case atStart => exact ⟨0, ys, false, Nat.zero_le _, rfl, rfl, O1.out, BI, hid (by rw [L1.out]; exact Nat.le_refl _), hid (fun h => by cases h), hid (fun _ => ⟨L1.out, by simp⟩), NX1.out⟩
        case round =>
          obtain ⟨j, zs, g, hj, rfl, rfl, hown, BI2, HLE, HT, HF, hnx⟩ := hrel
          have j0 : (0 : Int) ≤ (j : Int) := by omega
          by_cases hlt : j < ms.length
          · have hltI : (j : Int) < (ms.length : Int) := by omega
            obtain ⟨⟨ml, mr⟩, hm⟩ := get_some hlt
            obtain ⟨mb, moff, rfl, hmd⟩ := MC.out j _ hm
            obtain ⟨e0, e1⟩ := hmd wr hnx
            simp only at e0 e1
            have MM := hid (List.mem_of_getElem? hm)
            have MT := hid (take_next hm)
            have BX := hid (below_alloc wr (.cells #[.int .u32 (iv ml), .int .u32 (iv mr)] 51))
            have C2 := hid (fun (W : World) h => cells2 (w := wr) (a := .int .u32 (iv ml)) (b := .int .u32 (iv mr)) (t := 51) W h)
            have OX := hid (own_below hown BX.out)
            have NE := hid (show some wr.heap.size ≠ u7.ownBlock from fun e => Nat.lt_irrefl _ (hown.lt _ e.symm).2)
            obtain ⟨w5, hw5⟩ : ∃ w5 : World, wr.alloc (.cells #[.int .u32 (iv ml), .int .u32 (iv mr)] 51) = w5 := ⟨_, rfl⟩
            rw [hw5] at BX C2 OX
            have W5 := hid hw5
            have B5 := hid (hnx.trans (BX.out.mono hnx.size))
            obtain ⟨bx, hbx⟩ : ∃ bx, wr.heap.size = bx := ⟨_, rfl⟩
            have HBX := hid hbx
            rw [hbx] at C2 NE
            obtain ⟨n0', hn0⟩ : ∃ n0', zs.length = n0' := ⟨_, rfl⟩
            have N0 := hid hn0
            have ZL := hid BI2.out.len
            obtain ⟨ho, hcap, hvo⟩ : ∃ ho hcap, u7 = .slice ho n0' hcap := by
              rcases hown.2 with ⟨h1, h2⟩ | ⟨g', cap', cur, hv, _⟩
              · exact ⟨none, 0, by rw [h1, ← hn0, h2]⟩
              · exact ⟨_, cap', by rw [hv, hn0]⟩
            have HD := hid (show HdrO w5 ho n0' 0 zs from fun q b _ hq hb => by
              obtain ⟨g', cap', hv', -, -⟩ := OX.out.form (by omega)
              rw [hvo] at hv'
              cases hv'
              refine ⟨g', rfl, ?_⟩
              have h := OX.out
              rw [hvo] at h
              rw [h.cellAt q (by omega), List.getElem?_map, hb]; rfl)
            have n00 : (0 : Int) ≤ (n0' : Int) := by omega
            have n32 : (n0' : Int) ≤ 32 := by have := ZL.out; omega
            subst hvo
            have HLT := hid hlt
            clear hm hmd hw5 hbx hn0 hlt hown hnx
            go_upto_region 11 with fail
            rw [W5.out, HBX.out]
            clear e0 e1
            obtain ⟨q0, q1⟩ := C2.out _ (Below.refl _ _)
            have Q5 := hid (And.intro q0 q1)
            clear q0 q1
            go_wp2_with fail
            go_loopw [7, 9, 34] (fun o ag idx wr => ∃ (i : Nat) (ys : List S) (g : Bool), i ≤ n0' ∧ idx = .int .i64 (i : Int) ∧ ag = .bool g ∧ wr.ownsRow w.heap.size 47 1 o ys.length (ys.map enc) ∧ Hid (BlkI ms rest ys) ∧ Hid (HdrO wr ho n0' i ys) ∧ Hid (n0' ≤ ys.length) ∧ Hid (g = true → len1 < ys.length) ∧ Hid (g = false → ys.length = len1 ∧ (∀ m ∈ ms.take j, ∀ b ∈ ys, spl m b = false) ∧ ∀ b ∈ ys.take i, spl (ml, mr) b = false) ∧ Hid (some bx ≠ o.ownBlock) ∧ Hid (wr.cell? ⟨bx, 0, none⟩ = some (.int .u32 (iv ml)) ∧ wr.cell? ⟨bx, 1, none⟩ = some (.int .u32 (iv mr))) ∧ Below w.heap.size w wr) (fun _ _ idx _ => n0' - (intOf idx).toNat)
            case atStart => exact ⟨0, zs, g, Nat.zero_le _, rfl, rfl, by rw [N0.out]; exact N0.out ▸ OX.out, BI2, HD, hid (by rw [N0.out]; exact Nat.le_refl _), HT, hid (fun h => ⟨(HF.out h).1, (HF.out h).2, by simp⟩), NE, Q5, B5.out⟩
            case round =>
              obtain ⟨i, ys', g', hi, rfl, rfl, hown, BI3, HD3, HN3, HT3, HF3, NE3, Q3, hnx⟩ := hrel
              have i0 : (0 : Int) ≤ (i : Int) := by omega
              have LE3 := hid BI3.out.len
              by_cases hli : i < n0'
              · have hliI : (i : Int) < (n0' : Int) := by omega
                obtain ⟨b, hb⟩ := get_some (show i < ys'.length by have := HN3.out; omega)
                obtain ⟨hb0, rfl, e0⟩ := HD3.out i b (Nat.le_refl _) hli hb
                unfold enc at e0
                obtain ⟨q0, q1⟩ := Q3.out
                have TK := hid (take_next hb)
                have HLI := hid hli
                rcases hsp : spl (ml, mr) b with _ | _
                · have NX3 := hid hnx
                  have O3 := hid hown
                  have HF4 := hid (show g' = false → ys'.length = len1 ∧ (∀ m ∈ ms.take j, ∀ b ∈ ys', spl m b = false) ∧ ∀ b ∈ ys'.take (i + 1), spl (ml, mr) b = false from fun h => ⟨(HF3.out h).1, (HF3.out h).2.1, fun b' hb' => by
                    rw [TK.out] at hb'
                    rcases List.mem_append.1 hb' with h' | h'
                    · exact (HF3.out h).2.2 b' h'
                    · rw [List.mem_singleton] at h'; subst h'; exact hsp⟩)
                  have hsp' := spl_false.1 hsp
                  simp only at hsp'
                  clear hown hnx hb hli hsp
                  rcases hsp' with s1 | ⟨s1, s2⟩ | ⟨s1, s2, s3⟩
                  all_goals
                    go_wp2_with fail
                    go_roundw
                    case rel => exact ⟨i + 1, ys', g', by have := HLI.out; omega, by go_num, rfl, O3.out, BI3, hid HD3.out.next, HN3, HT3, HF4, NE3, Q3, NX3.out⟩
                    case measure => have := HLI.out; simp [intOf]; omega
                · obtain ⟨s1, s2, s3⟩ := spl_true hsp
                  simp only at s1 s2 s3
                  have BI4 := hid (BI3.out.split MM.out hb hsp)
                  obtain ⟨ob, ocap, hvo, hob, hol⟩ := hown.form (by have := HN3.out; omega)
                  subst hvo
                  have hcb : wr.cell? ⟨ob, i, none⟩ = some (.int .u32 (iv b)) := by rw [hown.cellAt i (by have := HN3.out; omega), List.getElem?_map, hb]; rfl
                  have hfz : wr.frozen? ⟨ob, i, none⟩ = false := hown.frozenAt _
                  have iy : (i : Int) < (ys'.length : Int) := by have := HN3.out; omega
                  have OB := hid hob
                  have O3 := hid hown
                  have NX3 := hid hnx
                  have OBX := hid (show bx ≠ ob from fun e => NE3.out (by rw [e]; rfl))
                  clear hown hnx hb hli hsp hob
                  go_upto_region 16 with fail
                  have ST := (O3.out.stored i (.int .u32 (iv (b &&& mr)))).1
                  rw [← show (ys'.set i (b &&& mr)).map enc = (ys'.map enc).set i (.int .u32 (iv (b &&& mr))) by rw [List.map_set]; rfl] at ST
                  have OA := hid (show (wr.setCell ⟨ob, i, none⟩ (.int .u32 (iv (b &&& mr)))).ownsRow w.heap.size 47 1 (.slice (some ⟨ob, 0, none⟩) ys'.length ocap) (ys'.set i (b &&& mr)).length ((ys'.set i (b &&& mr)).map enc) by rw [List.length_set]; exact ST)
                  have HA := hid (HD3.out.store (ob := ob) (y := b &&& mr) (v := .int .u32 (iv (b &&& mr))))
                  have BA := hid (NX3.out.setCell (p := ⟨ob, i, none⟩) OB.out (.int .u32 (iv (b &&& mr))))
                  have p0 : (wr.setCell ⟨ob, i, none⟩ (.int .u32 (iv (b &&& mr)))).cell? ⟨bx, 0, none⟩ = some (.int .u32 (iv ml)) := (World.cell?_setCell_other _ _ _ _ (by simp; exact fun e => absurd e.symm OBX.out)).trans q0
                  have p1 : (wr.setCell ⟨ob, i, none⟩ (.int .u32 (iv (b &&& mr)))).cell? ⟨bx, 1, none⟩ = some (.int .u32 (iv mr)) := (World.cell?_setCell_other _ _ _ _ (by simp; exact fun e => absurd e.symm OBX.out)).trans q1
                  have P2 := hid (And.intro p0 p1)
                  generalize wr.setCell ⟨ob, i, none⟩ (.int .u32 (iv (b &&& mr))) = wA at *
                  clear ST q0 q1 hcb hfz
                  have SL := hid (show (ys'.set i (b &&& mr)).length ≤ 32 by rw [List.length_set]; exact LE3.out)
                  have HNA := hid (show n0' ≤ (ys'.set i (b &&& mr)).length by rw [List.length_set]; exact HN3.out)
                  have SZ := hid (show ys'.length < (ys'.set i (b &&& mr) ++ [b &&& ~~~ mr]).length by rw [List.length_append, List.length_set]; simp)
                  have HLS := hid (show len1 ≤ ys'.length by
                    cases g' with
                    | true => exact Nat.le_of_lt (HT3.out rfl)
                    | false => exact Nat.le_of_eq (HF3.out rfl).1.symm)
                  generalize ys'.set i (b &&& mr) = yA at *
                  have BW := hid (below_alloc wA (.cells #[.int .u32 (iv (b &&& ~~~ mr))] 47))
                  go_wp2_with (at_builtin; refine wpList_pushFar rfl _ _ 66 rfl w.heap.size 47 (.int .u32 0) 4 undSets infoSet rfl (by decide) _ yA rfl (own_below OA.out BW.out) ⟨wA.heap.size, 0, none⟩ (b &&& ~~~ mr) rfl cell_new (by have := SL.out; omega) (by have := BA.out.size; simp; omega) ?_)
                  intro v8 w8 ho8 hg8 hv8 hf8
                  have ho8' : w8.ownsRow w.heap.size 47 1 v8 (yA ++ [b &&& ~~~ mr]).length ((yA ++ [b &&& ~~~ mr]).map enc) := by simpa using ho8
                  have O8 := hid ho8'
                  have HD8 := hid ((HA.out.below BW.out).push HNA.out hg8 hf8 ho8')
                  have B8 := hid (show Below w.heap.size w w8 from (BA.out.trans (BW.out.mono BA.out.size)).grown hg8 (by have := BA.out.size; have := BW.out.size; omega) (fun k hk => by cases hk; exact OB.out))
                  have LX := hid (World.block_lt_of_cell? _ _ p0)
                  have Q8 := hid (And.intro ((hg8.cell_far ⟨bx, 0, none⟩ (Nat.lt_of_lt_of_le LX.out BW.out.size) NE3.out).trans ((BW.out.cell (p := ⟨bx, 0, none⟩) LX.out).trans p0)) ((hg8.cell_far ⟨bx, 1, none⟩ (Nat.lt_of_lt_of_le LX.out BW.out.size) NE3.out).trans ((BW.out.cell (p := ⟨bx, 1, none⟩) LX.out).trans p1)))
                  have NE8 := hid (show some bx ≠ v8.ownBlock from fun e => by
                    rcases hv8 with h | h
                    · rw [h] at e; exact NE3.out e
                    · rw [h] at e
                      have := Option.some.inj e
                      have h1 := LX.out
                      have h2 := BW.out.size
                      simp only at h1
                      omega)
                  obtain ⟨ao8, n8, cap8, rfl⟩ : ∃ ao n cap, v8 = .slice ao n cap := by obtain ⟨a, c, h, -⟩ := ho8'.form (by simp); exact ⟨_, _, c, h⟩
                  clear ho8 ho8' hg8 hv8 hf8 p0 p1
                  go_wp2_with fail
                  go_roundw
                  case rel => exact ⟨i + 1, _, true, by have := HLI.out; omega, by go_num, rfl, O8.out, BI4, HD8, hid (by rw [List.length_append]; have := HNA.out; omega), hid (fun _ => by have h1 := SZ.out; have h2 := HLS.out; omega), hid (fun h => by cases h), NE8, Q8, B8.out⟩
                  case measure => have := HLI.out; simp [intOf]; omega
              · have hliI : ¬ (i : Int) < (n0' : Int) := by omega
                have hie : i = n0' := by omega
                have NX3 := hid hnx
                have O3 := hid hown
                have HF4 := hid (show g' = false → ys'.length = len1 ∧ ∀ m ∈ ms.take (j + 1), ∀ b ∈ ys', spl m b = false from fun h => ⟨(HF3.out h).1, fun m hm b hb => by
                  rw [MT.out] at hm
                  rcases List.mem_append.1 hm with h' | h'
                  · exact (HF3.out h).2.1 m h' b hb
                  · rw [List.mem_singleton] at h'
                    subst h'
                    refine (HF3.out h).2.2 b ?_
                    rw [List.take_of_length_le (by have h1 := HN3.out; have h2 := (HF3.out h).1; have h3 := HLE.out; have h4 := N0.out; omega)]
                    exact hb⟩)
                have HLE4 := hid (show len1 ≤ ys'.length by
                  cases g' with
                  | true => exact Nat.le_of_lt (HT3.out rfl)
                  | false => exact Nat.le_of_eq (HF3.out rfl).1.symm)
                clear hown hnx hli hie
                go_wp2_with fail
                go_roundw
                case rel => exact ⟨j + 1, ys', g', by have := HLT.out; omega, by go_num, rfl, O3.out, BI3, HLE4, HT3, HF4, NX3.out⟩
                case measure => have := HLT.out; simp [intOf]; omega
          · have hltI : ¬ (j : Int) < (ms.length : Int) := by omega
            have hje : j = ms.length := by omega
            have NX3 := hid hnx
            have O3 := hid hown
            have HF4 := hid (show g = false → ∀ m ∈ ms, ∀ b ∈ zs, spl m b = false from fun h m hm b hb => (HF.out h).2 m (by rw [hje, List.take_length]; exact hm) b hb)
            have LV3 := hid (show lenV u7 = zs.length by
              rcases hown.2 with ⟨h1, h2⟩ | ⟨g', cap', cur, hv, _⟩
              · rw [h1, h2]; rfl
              · rw [hv]; rfl)
            have Z32 := hid BI2.out.len
            clear hown hnx hlt hje
            go_wp2_with fail
            go_roundw
            case rel => exact ⟨zs, g, rfl, O3.out, BI2, HF4, NX3.out⟩
            case measure =>
              cases g with
              | false =>
                have h1 := BI.out.len
                rw [L1.out] at h1
                rw [muB_true, muB_false, LV.out]; omega
              | true =>
                have h1 := HT.out rfl
                have h2 := Z32.out
                rw [muB_true, muB_true, LV.out, LV3.out]; omega

end Go.Proofs.YtcfcmalaabmceaaGreatDoor


/- The walk of basis.ImpliesMVD. -/
namespace Go.Proofs.YtcfcmalaabmceaaGreatDoor
open Go.RowKit
set_option linter.unusedVariables false
set_option linter.unusedSimpArgs false

theorem allM_len (fs gs : List F) (h1 : fs.length ≤ 64) (h2 : gs.length ≤ 64) : (allM fs gs).length ≤ 10000 := by
  have e : allM fs gs = gs ++ fs.flatMap allX := rfl
  rw [e, List.length_append]
  have := flatAll_length fs
  omega
theorem cut_cases (r b : S) : (b &&& r != 0#32) = false ∧ cutB r b = false ∨ (b &&& r != 0#32) = true ∧ (b &&& ~~~ r != 0#32) = false ∧ cutB r b = false ∨ (b &&& r != 0#32) = true ∧ (b &&& ~~~ r != 0#32) = true ∧ cutB r b = true := by
  unfold cutB bne
  cases (b &&& r == 0#32) <;> cases (b &&& ~~~ r == 0#32) <;> simp
set_option maxHeartbeats 3200000 in
set_option maxRecDepth 100000 in
theorem bmvd_any (n : Nat) (fs gs : List F) (g : F) (v u : Value) (w : World) (hT : Tab w) (hv : RdF w v fs) (hu : RdF w u gs) (hn : n ≤ 16) (hval : validF (n : Int) fs = 0) (hfl : fs.length ≤ 64) (hl : gs.length ≤ 64) (hg : ∀ m ∈ gs, (m.1 ||| m.2) >>> n = 0#32) (hs : (g.1 ||| g.2) >>> n = 0#32) :
    Calls Tryz.prog 11 #[.int .i64 (n : Int), v, u, .agg #[.int .u32 (iv g.1), .int .u32 (iv g.2)]] w fun e w' => ∃ ys, BlkR n (allM fs gs) g.1 ys ∧ e = .returned (.tuple #[.bool (!(ys.any (cutB g.2))), .int .i64 0]) ∧ Below w.heap.size w w' := by
  have hb0 := below_alloc w (.cells #[.int .u32 (iv g.1), .int .u32 (iv g.2)] 51)
  have C2 := hid (fun (W : World) h => cells2 (w := w) (a := .int .u32 (iv g.1)) (b := .int .u32 (iv g.2)) (t := 51) W h)
  obtain ⟨w0, hw0⟩ : ∃ w0 : World, w.alloc (.cells #[.int .u32 (iv g.1), .int .u32 (iv g.2)] 51) = w0 := ⟨_, rfl⟩
  rw [hw0] at hb0 C2
  have W0 := hid hw0
  have B0 := hid hb0
  have ML := hid (allM_len fs gs hfl hl)
  have CK := hid (basCk_any n fs gs v u (g.1 ||| g.2) w0 (RdC.below hv hb0) (RdC.below hu hb0) hn hval hl hg hs)
  have AL := hid (fun (W : World) (h : Below w0.heap.size w0 W) => show Calls Tryz.prog 26 #[v, u] W fun e w' => ∃ v', e = .returned v' ∧ w'.ownsRow W.heap.size 51 2 v' (allM fs gs).length ((allM fs gs).flatMap cF) ∧ Below W.heap.size W w' from ball_any fs gs v u W ((hT.below hb0).below h) (RdC.below (RdC.below hv hb0) h) (RdC.below (RdC.below hu hb0) h) (by omega) (by omega))
  have BL := hid (fun (x : Value) (W : World) (h : RdF W x (allM fs gs)) => bblocks_any n (allM fs gs) x g.1 W h (by omega) ML.out)
  obtain ⟨ms, hms⟩ : ∃ ms, allM fs gs = ms := ⟨_, rfl⟩
  rw [hms] at ML AL BL ⊢
  have HS := hid (fun (W : World) (h : Below w0.heap.size w0 W) => And.intro h (C2.out W h))
  obtain ⟨c0, c1⟩ := C2.out _ (Below.refl _ _)
  obtain ⟨vo, vcap, rfl, -⟩ := hv
  obtain ⟨uo, ucap, rfl, -⟩ := hu
  have n0 : (0 : Int) ≤ (n : Int) := by omega
  have n1 : (n : Int) ≤ 16 := by omega
  clear hT hn hval hfl hl hg hs hb0 hw0 hms
  go_enter Tryz.func11, Tryz.ntmps11
  go_upto_region 1 with fail
  rw [W0.out]
  go_wp2_with fail
  refine CK.out.mono ?_
  rintro e w1 ⟨rfl, hb1⟩
  have D1 := hid hb1
  clear hb1 c0 c1
  obtain ⟨c0, c1⟩ := C2.out _ D1.out
  go_wp2_with fail
  go_region_held3 (fun W => Below w0.heap.size w0 W ∧ W.cell? ⟨w.heap.size, 0, none⟩ = some (.int .u32 (iv g.1)) ∧ W.cell? ⟨w.heap.size, 1, none⟩ = some (.int .u32 (iv g.2)))
    (first | exact HS.out _ (below_drewN' D1.out _) | exact HS.out _ D1.out.drew | exact HS.out _ D1.out | exact HS.out _ (by assumption))
    (first
      | (go_at_call 26; have hS := And.left ‹Below w0.heap.size w0 _ ∧ _ ∧ _›; with_reducible refine (AL.out _ hS).mono ?_; rintro e wa ⟨va, rfl, hoa, hba⟩; have hLa := hS.trans (hba.mono hS.size); have hra : RdF wa va ms := RdC.of_owns cF_length hoa (by have := ML.out; omega); clear hba hS hoa)
      | (go_at_call 25; have hS := And.left ‹Below w0.heap.size w0 _ ∧ _ ∧ _›; refine (BL.out _ _ (by first | exact hra | exact RdC.below hra (Below.refl _ _).drew)).mono ?_; rintro e wb ⟨vb, ys, rfl, hob, hyr, hyl, hbb⟩; have hLb := hS.trans (hbb.mono hS.size); obtain ⟨yo, ycap, rfl, -⟩ := (RdE.of_owns hob (by omega)).split; clear hbb hS))
  all_goals
    have LB := hid hLb
    have RY := hid (RdE.of_owns hob (by omega))
    have YR := hid hyr
    obtain ⟨yo', ycap', hye, -, hyc⟩ := RY.out.split
    simp only [Value.slice.injEq, true_and] at hye
    obtain ⟨rfl, rfl⟩ := hye
    have YC := hid hyc
    have yl : (ys.length : Int) ≤ 32 := by omega
    clear hLa hLb hra hob hyr hyl hyc c0 c1
    go_wp2_with fail
    go_loopw [33] (fun x wr => ∃ k : Nat, k ≤ ys.length ∧ x = .int .i64 (k : Int) ∧ Hid ((ys.take k).any (cutB g.2) = false) ∧ Below wb.heap.size wb wr) (fun x _ => ys.length - (intOf x).toNat)
    case atStart => exact ⟨0, Nat.zero_le _, rfl, hid (by simp), by first | exact Below.refl _ _ | exact below_drewN' (Below.refl _ _) _ | exact (Below.refl _ _).drew⟩
    case round =>
      obtain ⟨k, hk, rfl, HA, hnx⟩ := hrel
      have k0 : (0 : Int) ≤ (k : Int) := by omega
      have NX := hid (LB.out.trans (hnx.mono LB.out.size))
      by_cases hlt : k < ys.length
      · have hltI : (k : Int) < (ys.length : Int) := by omega
        obtain ⟨b, hb⟩ := get_some hlt
        obtain ⟨yb, yoff, rfl, hyd⟩ := YC.out k b hb
        have e0 := hyd wr hnx
        unfold enc at e0
        obtain ⟨c0, c1⟩ := C2.out _ NX.out
        have MB := hid (List.mem_of_getElem? hb)
        have TK := hid (take_next hb)
        have HLT := hid hlt
        have HNX := hid hnx
        clear hyd hb hlt hnx
        rcases cut_cases g.2 b with ⟨s1, s2⟩ | ⟨s1, s3, s2⟩ | ⟨s1, s3, s2⟩
        · have HA2 := hid (show (ys.take (k + 1)).any (cutB g.2) = false by rw [TK.out, List.any_append, HA.out]; simp [s2])
          clear s2
          go_wp2_with fail
          go_roundw
          case rel => exact ⟨k + 1, by have := HLT.out; omega, by go_num, HA2, HNX.out⟩
          case measure => have := HLT.out; simp [intOf]; omega
        · have HA2 := hid (show (ys.take (k + 1)).any (cutB g.2) = false by rw [TK.out, List.any_append, HA.out]; simp [s2])
          clear s2
          go_wp2_with fail
          go_roundw
          case rel => exact ⟨k + 1, by have := HLT.out; omega, by go_num, HA2, HNX.out⟩
          case measure => have := HLT.out; simp [intOf]; omega
        · have RA := hid (show (!(ys.any (cutB g.2))) = false by rw [List.any_eq_true.2 ⟨b, MB.out, s2⟩]; rfl)
          clear s2
          go_wp2_with fail
          go_ret2
          exact ⟨ys, YR.out, (by rw [RA.out]; rfl), B0.out.trans (NX.out.mono B0.out.size)⟩
      · have hltI : ¬ (k : Int) < (ys.length : Int) := by omega
        have RA := hid (show (!(ys.any (cutB g.2))) = true by
          have h := HA.out
          rw [List.take_of_length_le (by omega)] at h
          rw [h]; rfl)
        clear hnx
        go_wp2_with fail
        go_ret2
        exact ⟨ys, YR.out, (by rw [RA.out]; rfl), B0.out.trans (NX.out.mono B0.out.size)⟩

end Go.Proofs.YtcfcmalaabmceaaGreatDoor

