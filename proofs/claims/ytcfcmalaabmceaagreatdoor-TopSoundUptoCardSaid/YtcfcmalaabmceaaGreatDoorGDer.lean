/- Texts that belong together, in one file. -/
import Derived.Test.YtcfcmalaabmceaaGreatDoorGPlain
import Derived.Test.YtcfcmalaabmceaaGreatDoorGFd
import Derived.Deep.AppendLies
import Derived.Test.YtcfcmalaabmceaaGreatDoorAfter
import Derived.Deep.DeepCutAuto
/- Plain laws of derivations: what Prove writes is right step by step, ends in the goal, and uses each step. No program. -/
namespace Go.Proofs.YtcfcmalaabmceaaGreatDoor
open Go.RowKit
set_option linter.unusedVariables false

/-- A step: its rule, the indices that it uses, its conclusion. -/
abbrev Stp := Int × List Nat × F
def subB (a b : S) : Bool := a &&& ~~~ b == 0#32
theorem subB_iff {a b : S} : subB a b = true ↔ sub a b := by unfold subB; rw [beq_iff_eq, andNot_zero_iff]
/-- The conclusion of an earlier step. -/
def earD (st : List Stp) (i k : Nat) : Option F := if k < i then (st[k]?).map (·.2.2) else none
def givD (fs : List F) (l : List Nat) (d : F) : Bool := match l with | [k] => (match fs[k]? with | some f => f == d | none => false) | _ => false
def augD (st : List Stp) (i : Nat) (l : List Nat) (d : F) : Bool := match l with
  | [k] => (match earD st i k with | some f => subB f.1 d.1 && subB f.2 d.2 && subB (d.1 &&& ~~~ f.1) d.2 && subB (d.2 &&& ~~~ f.2) d.1 | none => false)
  | _ => false
def traD (st : List Stp) (i : Nat) (l : List Nat) (d : F) : Bool := match l with
  | [k, j] => (match earD st i k, earD st i j with | some f, some g => f.2 == g.1 && d == (f.1, g.2) | _, _ => false)
  | _ => false
def rightD (m : Nat) (fs : List F) (st : List Stp) (i : Nat) (s : Stp) : Bool :=
  subB (s.2.2.1 ||| s.2.2.2) (fullN m) && (if s.1 = 1 then givD fs s.2.1 s.2.2 else if s.1 = 2 then s.2.1.isEmpty && subB s.2.2.2 s.2.2.1 else if s.1 = 3 then augD st i s.2.1 s.2.2 else if s.1 = 4 then traD st i s.2.1 s.2.2 else false)
theorem earD_app {st : List Stp} {i k : Nat} (x : List Stp) (h : i ≤ st.length) : earD (st ++ x) i k = earD st i k := by
  unfold earD
  by_cases hk : k < i
  · rw [if_pos hk, if_pos hk, List.getElem?_append_left (by omega)]
  · rw [if_neg hk, if_neg hk]
theorem rightD_app {m : Nat} {fs : List F} {st : List Stp} {i : Nat} {s : Stp} (x : List Stp) (h : i ≤ st.length) : rightD m fs (st ++ x) i s = rightD m fs st i s := by
  unfold rightD augD traD
  simp only [earD_app x h]
def DerOk (m : Nat) (fs : List F) (st : List Stp) : Prop := ∀ (i : Nat) (s : Stp), st[i]? = some s → rightD m fs st i s = true
theorem DerOk.add {m : Nat} {fs : List F} {st : List Stp} {s : Stp} (h : DerOk m fs st) (hs : rightD m fs st st.length s = true) : DerOk m fs (st ++ [s]) := by
  intro i x hx
  have hi := (List.getElem?_eq_some_iff.1 hx).1
  rw [List.length_append, List.length_singleton] at hi
  by_cases hl : i < st.length
  · rw [List.getElem?_append_left hl] at hx
    rw [rightD_app _ (by omega)]; exact h i x hx
  · have e : i = st.length := by omega
    subst e
    rw [List.getElem?_append_right (Nat.le_refl _), Nat.sub_self] at hx
    simp at hx; subst hx
    rw [rightD_app _ (Nat.le_refl _)]; exact hs
/-- Each step but one is used by a later one. -/
def UseOk (st : List Stp) (last : Nat) : Prop := ∀ k, k < st.length → k ≠ last → ∃ (j : Nat) (s : Stp), k < j ∧ st[j]? = some s ∧ (s.1 = 3 ∨ s.1 = 4) ∧ k ∈ s.2.1
theorem UseOk.app {st : List Stp} {last : Nat} (h : UseOk st last) (x : List Stp) : ∀ k, k < st.length → k ≠ last → ∃ (j : Nat) (s : Stp), k < j ∧ (st ++ x)[j]? = some s ∧ (s.1 = 3 ∨ s.1 = 4) ∧ k ∈ s.2.1 := by
  intro k hk hn
  obtain ⟨j, s, h1, h2, h3, h4⟩ := h k hk hn
  exact ⟨j, s, h1, by rw [List.getElem?_append_left (List.getElem?_eq_some_iff.1 h2).1]; exact h2, h3, h4⟩
/-- What Prove has written, for a list of indices still to be used. -/
def runD (fs : List F) (g : F) : List Nat → List Stp → S → Nat → List Stp × S × Nat
  | [], st, now, last => (st, now, last)
  | i :: l, st, now, last => runD fs g l (st ++ [(1, [i], fs.getD i (0#32, 0#32)), (3, [st.length], (now, now ||| (fs.getD i (0#32, 0#32)).2)), (4, [last, st.length + 1], (g.1, now ||| (fs.getD i (0#32, 0#32)).2))]) (now ||| (fs.getD i (0#32, 0#32)).2) (st.length + 2)
structure InvD (m : Nat) (fs : List F) (g : F) (st : List Stp) (now : S) (last : Nat) : Prop where
  ok : DerOk m fs st
  use : UseOk st last
  lst : ∃ r l, st[last]? = some (r, l, (g.1, now))
  full : sub now (fullN m)
theorem sub_or_iff {a b c : S} : sub (a ||| b) c ↔ sub a c ∧ sub b c := by
  constructor
  · intro h
    exact ⟨fun i hi hx => h i hi (by rw [BitVec.getLsbD_or, hx]; rfl), fun i hi hx => h i hi (by rw [BitVec.getLsbD_or, hx]; simp)⟩
  · rintro ⟨h, k⟩ i hi hx
    rw [BitVec.getLsbD_or, Bool.or_eq_true] at hx
    exact hx.elim (h i hi) (k i hi)
theorem sub_diff {a b c : S} (h : sub a (b ||| c)) : sub (a &&& ~~~ c) b := by
  intro i hi hx
  rw [BitVec.getLsbD_and, BitVec.getLsbD_not, Bool.and_eq_true] at hx
  have := h i hi hx.1
  rw [BitVec.getLsbD_or, Bool.or_eq_true] at this
  rcases this with h1 | h1
  · exact h1
  · rw [h1] at hx; simp at hx
theorem InvD.next {m : Nat} {fs : List F} {g : F} {st : List Stp} {now : S} {last i : Nat} {f : F} (h : InvD m fs g st now last) (hg : sub g.1 (fullN m)) (hf : fs[i]? = some f) (hfull : sub f.1 (fullN m) ∧ sub f.2 (fullN m)) (hen : sub f.1 now) :
    InvD m fs g (st ++ [(1, [i], f), (3, [st.length], (now, now ||| f.2)), (4, [last, st.length + 1], (g.1, now ||| f.2))]) (now ||| f.2) (st.length + 2) := by
  have hn2 : sub (now ||| f.2) (fullN m) := sub_or_iff.2 ⟨h.full, hfull.2⟩
  obtain ⟨r0, l0, hl⟩ := h.lst
  have hll := (List.getElem?_eq_some_iff.1 hl).1
  have e3 : ∀ (a b c : Stp), st ++ [a, b, c] = ((st ++ [a]) ++ [b]) ++ [c] := fun a b c => by simp
  have k1 : DerOk m fs (st ++ [((1, [i], f) : Stp)]) := h.ok.add (by
    unfold rightD givD
    simp only [if_true, hf, Bool.and_eq_true, beq_self_eq_true, and_true]
    exact subB_iff.2 (sub_or_iff.2 hfull))
  have k2 : DerOk m fs ((st ++ [((1, [i], f) : Stp)]) ++ [((3, [st.length], (now, now ||| f.2)) : Stp)]) := k1.add (by
    have hx : earD (st ++ [((1, [i], f) : Stp)]) (st ++ [((1, [i], f) : Stp)]).length st.length = some f := by
      unfold earD
      rw [if_pos (by simp), List.getElem?_append_right (Nat.le_refl _), Nat.sub_self]; rfl
    unfold rightD augD
    simp only [hx, Bool.and_eq_true, show ((3 : Int) = 1) = False by simp, show ((3 : Int) = 2) = False by simp, if_false, if_true, subB_iff]
    refine ⟨sub_or_iff.2 ⟨h.full, hn2⟩, ⟨⟨hen, sub_or_right _ _⟩, fun j hj hx => ?_⟩, sub_diff (sub_refl _)⟩
    rw [BitVec.getLsbD_and, Bool.and_eq_true] at hx
    rw [BitVec.getLsbD_or, hx.1]; rfl)
  have k3 : DerOk m fs (((st ++ [((1, [i], f) : Stp)]) ++ [((3, [st.length], (now, now ||| f.2)) : Stp)]) ++ [((4, [last, st.length + 1], (g.1, now ||| f.2)) : Stp)]) := k2.add (by
    have hx : earD ((st ++ [((1, [i], f) : Stp)]) ++ [((3, [st.length], (now, now ||| f.2)) : Stp)]) ((st ++ [((1, [i], f) : Stp)]) ++ [((3, [st.length], (now, now ||| f.2)) : Stp)]).length last = some (g.1, now) := by
      unfold earD
      rw [if_pos (by simp; omega), List.append_assoc, List.getElem?_append_left hll, hl]; rfl
    have hy : earD ((st ++ [((1, [i], f) : Stp)]) ++ [((3, [st.length], (now, now ||| f.2)) : Stp)]) ((st ++ [((1, [i], f) : Stp)]) ++ [((3, [st.length], (now, now ||| f.2)) : Stp)]).length (st.length + 1) = some (now, now ||| f.2) := by
      unfold earD
      rw [if_pos (by simp), List.getElem?_append_right (by simp)]
      simp
    unfold rightD traD
    simp only [hx, hy, Bool.and_eq_true, show ((4 : Int) = 1) = False by simp, show ((4 : Int) = 2) = False by simp, show ((4 : Int) = 3) = False by simp, if_false, if_true, beq_self_eq_true, and_true, subB_iff]
    exact sub_or_iff.2 ⟨hg, hn2⟩)
  refine ⟨by rw [e3]; exact k3, fun k hk hn => ?_, ⟨4, [last, st.length + 1], by rw [List.getElem?_append_right (by omega)]; simp⟩, hn2⟩
  simp at hk
  by_cases h1 : k < st.length
  · by_cases h2 : k = last
    · exact ⟨st.length + 2, (4, [last, st.length + 1], (g.1, now ||| f.2)), by omega, by rw [List.getElem?_append_right (by omega)]; simp, .inr rfl, by simp [h2]⟩
    · exact h.use.app _ k h1 h2
  · by_cases h2 : k = st.length
    · exact ⟨st.length + 1, (3, [st.length], (now, now ||| f.2)), by omega, by rw [List.getElem?_append_right (by omega)]; simp, .inl rfl, by simp [h2]⟩
    · exact ⟨st.length + 2, (4, [last, st.length + 1], (g.1, now ||| f.2)), by omega, by rw [List.getElem?_append_right (by omega)]; simp, .inr rfl, by simp; omega⟩
/-- What Prove returns. -/
def proveD (fs : List F) (g : F) : List Stp :=
  (runD fs g (traceS fs g.1) [((2, [], (g.1, g.1)) : Stp)] g.1 0).1 ++ [((2, [], ((runD fs g (traceS fs g.1) [((2, [], (g.1, g.1)) : Stp)] g.1 0).2.1, g.2)) : Stp), (4, [(runD fs g (traceS fs g.1) [((2, [], (g.1, g.1)) : Stp)] g.1 0).2.2, (runD fs g (traceS fs g.1) [((2, [], (g.1, g.1)) : Stp)] g.1 0).1.length], g)]

end Go.Proofs.YtcfcmalaabmceaaGreatDoor


/- Plain laws of Prune: where each step but the last is used by a later one, nothing goes. No program. -/
namespace Go.Proofs.YtcfcmalaabmceaaGreatDoor
open Go.RowKit
set_option linter.unusedVariables false


end Go.Proofs.YtcfcmalaabmceaaGreatDoor


/- The walks of derivation's universe, sub, refers and the writer's add. -/
namespace Go.Proofs.YtcfcmalaabmceaaGreatDoor
open Go.RowKit
set_option linter.unusedVariables false

theorem dsub_any (x y : S) (w : World) : Calls Tryz.prog 33 #[.int .u32 (iv x), .int .u32 (iv y)] w fun e w' => e = .returned (.bool (subB x y)) ∧ w = w' := by
  have HQ := hid (show subB x y = (x &&& ~~~ y == 0#32) from rfl)
  go_enter Tryz.func33, Tryz.ntmps33
  go_wp2
  go_ret
  exact ⟨by first | rfl | (rw [HQ.out]; rfl), rfl⟩
theorem duniv_any (m : Nat) (hm : m < 32) (w : World) : Calls Tryz.prog 34 #[.int .i64 (m : Int)] w fun e w' => e = .returned (.int .u32 (iv (1#32 <<< m - 1#32))) ∧ w = w' := by
  have m0 : (0 : Int) ≤ (m : Int) := by omega
  have m1 : (m : Int) < 32 := by omega
  clear hm
  go_enter Tryz.func34, Tryz.ntmps34
  go_wp2
  go_ret
  exact ⟨by first | rfl | simp, rfl⟩
/-- A step in memory: its rule, the value of its indices, these, its conclusion. -/
abbrev St3 := Int × Value × List Nat × F
def cS (s : St3) : List Value := [.int .i64 s.1, s.2.1, .int .u32 (iv s.2.2.2.1), .int .u32 (iv s.2.2.2.2)]
theorem cS_length (s : St3) : (cS s).length = 4 := rfl
def toS (s : St3) : Stp := (s.1, s.2.2.1, s.2.2.2)
theorem undDers : Tryz.prog.underlying 61 = some (.slice 139) := by kernel_rfl
theorem infoDer : (Tryz.prog.info? 139).map (fun i => (i.zero, i.size, i.bytes)) = some (some (.agg #[.int .i64 0, .slice none 0 0, .int .u32 0, .int .u32 0]), 4, 40) := by kernel_rfl
/-- Steps of the call's own, each with a row of its own. -/
structure OwnSt (w : World) (B : Nat) (u : Value) (sts : List St3) : Prop where
  rows : w.ownsRow B 139 4 u sts.length (sts.flatMap cS)
  frm : ∀ s ∈ sts, w.ownsRow B 3 1 s.2.1 s.2.2.1.length (s.2.2.1.map encI)
theorem own_neD {w : World} {B1 B2 n1 n2 s1 s2 : Nat} {e1 e2 : TypeId} {v1 v2 : Value} {xs1 xs2 : List Value} (h1 : w.ownsRow B1 e1 s1 v1 n1 xs1) (h2 : w.ownsRow B2 e2 s2 v2 n2 xs2) (hne : e1 ≠ e2) : v1.ownBlock = none ∨ v1.ownBlock ≠ v2.ownBlock := by
  rcases h1.2 with ⟨rfl, -⟩ | ⟨g1, c1, cur1, rfl, -, hg1, -⟩
  · exact .inl rfl
  · right
    rcases h2.2 with ⟨rfl, -⟩ | ⟨g2, c2, cur2, rfl, -, hg2, -⟩
    · intro e; cases e
    · intro e
      have e' : g1 = g2 := Option.some.inj e
      subst e'
      rw [hg1] at hg2
      injection hg2 with h; injection h with _ h; exact hne h
theorem OwnSt.below {w w' : World} {B : Nat} {u : Value} {sts : List St3} (h : OwnSt w B u sts) (hb : Below w.heap.size w w') : OwnSt w' B u sts := ⟨own_below h.rows hb, fun s hs => own_below (h.frm s hs) hb⟩
theorem cells_newS (w : World) (s : St3) {t : TypeId} : ∀ j u, (cS s)[j]? = some u → (w.alloc (.cells #[.int .i64 s.1, s.2.1, .int .u32 (iv s.2.2.2.1), .int .u32 (iv s.2.2.2.2)] t)).cell? (Addr.add ⟨w.heap.size, 0, none⟩ j) = some u := by
  intro j u hj
  have hj2 : j < 4 := (List.getElem?_eq_some_iff.1 hj).1
  rcases (show j = 0 ∨ j = 1 ∨ j = 2 ∨ j = 3 by omega) with rfl | rfl | rfl | rfl <;> (simp [cS] at hj; subst hj; simp [Addr.add])
theorem wpList_pushD {α : Type} {P : Program} {w : World} {ops : Array Oper} {rest : List Oper} {o : Oper} {a : Act} {Q : Exit → Act → World → Prop} (hgd : o.guard = none) (s x : Operand) (t : TypeId)
    (ho : o.op = .call { callee := .builtin .append, args := #[s, x], argTypes := #[t, t] })
    (B : Nat) (e : TypeId) (z : Value) (n bytes : Nat) (ht : P.underlying t = some (.slice e)) (hinfo : (P.info? e).map (fun i => (i.zero, i.size, i.bytes)) = some (some z, n, bytes)) (hz : z.cells.size = n) (hn : 0 < n) (hb8 : bytes ≤ 64)
    (c : α → List Value) (hc : ∀ y, (c y).length = n) (v : Value) (xs : List α) (hs : a.eval s = v) (hown : w.ownsRow B e n v xs.length (xs.flatMap c))
    (ad : Addr) (y : α) (hf : ∀ u ∈ c y, u.oneCell' = true) (hx : a.eval x = .slice (some ad) 1 1) (hy : ∀ j u, (c y)[j]? = some u → w.cell? (ad.add j) = some u) (hl : xs.length < 2199023255552) (hB : B ≤ w.heap.size)
    (h : ∀ v' w', w'.ownsRow B e n v' (xs ++ [y]).length ((xs ++ [y]).flatMap c) → w.grownBy w' v.ownBlock → (v'.ownBlock = v.ownBlock ∨ v'.ownBlock = some w.heap.size) → wpList P ops Q rest (a.put o.dst v') w') : wpList P ops Q (o :: rest) a w := by
  obtain ⟨i, hi, hz0, hz1, hz2⟩ := info_parts hinfo
  refine wpList_append_lies w hgd s x t ho B e i z n bytes ht hi hz0 hz1 hz2 hz hn v xs.length (xs.flatMap c) hs hown ad 1 1 (c y) hx (by rw [hc, Nat.one_mul]) hy hf (by omega) ?_ ?_ hB _ rfl ?_
  · unfold maxLen; omega
  · refine Nat.le_trans (Nat.mul_le_mul_left _ hb8) ?_; omega
  · intro g cap w' h1 h2 h3 _
    refine h _ w' ?_ h2 (h3.elim (fun e => .inl e.symm) fun e => .inr (by rw [e]; rfl))
    simpa using h1
set_option maxHeartbeats 1600000 in
theorem dadd_any (M b : Nat) (sts : List St3) (u : Value) (rule : Int) (l : List Nat) (x y : S) (fv : Value) (w : World) (hc : w.cell? ⟨b, 0, none⟩ = some u) (hz : w.frozen? ⟨b, 0, none⟩ = false) (ho : OwnSt w (b + 1) u sts)
    (hf : w.ownsRow (b + 1) 3 1 fv l.length (l.map encI)) (hM : M ≤ b) (hl : sts.length ≤ 100000000000) :
    Calls Tryz.prog 36 #[.pointer (some ⟨b, 0, none⟩), .int .i64 rule, .int .u32 (iv x), .int .u32 (iv y), fv] w fun e w' => ∃ u', e = .returned (.int .i64 (sts.length : Int)) ∧ w'.cell? ⟨b, 0, none⟩ = some u' ∧ w'.frozen? ⟨b, 0, none⟩ = false ∧ OwnSt w' (b + 1) u' (sts ++ [(rule, fv, l, (x, y))]) ∧ Below M w w' ∧ (∀ k, k < w.heap.size → k ≠ b → some k ≠ u.ownBlock → w'.heap[k]? = w.heap[k]?) ∧ (∀ j, u'.ownBlock = some j → u.ownBlock = some j ∨ w.heap.size ≤ j) := by
  have hbl := World.block_lt_of_cell? _ _ hc
  have hbs : b < w.heap.size := hbl
  obtain ⟨ao, cap, rfl, -⟩ := RdC.of_owns cS_length ho.rows (by omega)
  obtain ⟨fo, fcap, rfl⟩ : ∃ fo fcap, fv = .slice fo l.length fcap := by
    rcases hf.2 with ⟨h1, h2⟩ | ⟨g', cap', cur, hv, _⟩
    · exact ⟨none, 0, by rw [h1, h2]⟩
    · exact ⟨_, cap', hv⟩
  have HO := hid ho
  have HF := hid hf
  have BA := hid (below_alloc w (.cells #[.int .i64 rule, .slice fo l.length fcap, .int .u32 (iv x), .int .u32 (iv y)] 139))
  have HBS := hid hbs
  have HM := hid hM
  have HC := hid (And.intro hc hz)
  have HL := hid hl
  have s0 : (0 : Int) ≤ (sts.length : Int) := by omega
  have s9 : (sts.length : Int) ≤ 100000000000 := by omega
  clear ho hf hbl hbs hM hl
  go_enter Tryz.func36, Tryz.ntmps36
  go_wp2_with (at_builtin; refine wpList_pushD rfl _ _ 61 rfl (b + 1) 139 (.agg #[.int .i64 0, .slice none 0 0, .int .u32 0, .int .u32 0]) 4 40 undDers infoDer rfl (by decide) (by decide) cS cS_length _ sts rfl (HO.out.rows.alloc _) ⟨w.heap.size, 0, none⟩ ((rule, .slice fo l.length fcap, l, (x, y)) : St3) (by intro v hv; simp [cS] at hv; rcases hv with rfl | rfl | rfl | rfl <;> rfl) rfl (cells_newS _ ((rule, .slice fo l.length fcap, l, (x, y)) : St3)) (by have := HL.out; omega) (by have := HBS.out; simp; omega) ?_)
  intro v8 w8 hown8 hg8 hv8
  have O8 := hid (show w8.ownsRow (b + 1) 139 4 v8 (sts ++ [((rule, .slice fo l.length fcap, l, (x, y)) : St3)]).length ((sts ++ [((rule, .slice fo l.length fcap, l, (x, y)) : St3)]).flatMap cS) by simpa using hown8)
  have HNE := hid (show some b ≠ (Value.slice ao sts.length cap).ownBlock from fun e => by have := (HO.out.rows.lt b e.symm).1; omega)
  have hc8 := (hg8.cell_far ⟨b, 0, none⟩ (by have := HBS.out; simp; omega) HNE.out).trans ((BA.out.cell (p := ⟨b, 0, none⟩) HBS.out).trans HC.out.1)
  have hz8 := (hg8.frozen_far ⟨b, 0, none⟩ (by have := HBS.out; simp; omega) HNE.out).trans ((BA.out.frozen (p := ⟨b, 0, none⟩) HBS.out).trans HC.out.2)
  have F8 := hid (fun (s : St3) (hs : s ∈ sts ++ [((rule, .slice fo l.length fcap, l, (x, y)) : St3)]) => show w8.ownsRow (b + 1) 3 1 s.2.1 s.2.2.1.length (s.2.2.1.map encI) from by
    have key : w.ownsRow (b + 1) 3 1 s.2.1 s.2.2.1.length (s.2.2.1.map encI) := by
      rcases List.mem_append.1 hs with h | h
      · exact HO.out.frm s h
      · rw [List.mem_singleton] at h; subst h; exact HF.out
    have k2 := own_below key BA.out
    exact k2.kept hg8 (own_neD k2 (own_below HO.out.rows BA.out) (by decide)))
  obtain ⟨ao8, cap8, hv, -⟩ := RdC.of_owns cS_length O8.out (by rw [List.length_append, List.length_singleton]; have := HL.out; omega)
  have B8 := hid (show Below M w w8 from by
    have h1 : Below M w (w.alloc (.cells #[.int .i64 rule, .slice fo l.length fcap, .int .u32 (iv x), .int .u32 (iv y)] 139)) := BA.out.mono (by have := HBS.out; have := HM.out; omega)
    exact h1.grown hg8 (by have := HBS.out; have := HM.out; simp; omega) (fun j hj => by have := (HO.out.rows.lt j hj).1; have := HM.out; omega))
  have K8 := hid (fun (k : Nat) (hk : k < w.heap.size) (hne : some k ≠ (Value.slice ao sts.length cap).ownBlock) => show w8.heap[k]? = w.heap[k]? from (hg8.block k (by simp; omega) hne).trans (BA.out.block k hk))
  have V8 := hid (fun (j : Nat) (e : v8.ownBlock = some j) => show (Value.slice ao sts.length cap).ownBlock = some j ∨ w.heap.size ≤ j from by
    rcases hv8 with h | h
    · exact .inl (h.symm.trans e)
    · right
      have e2 := Option.some.inj (h.symm.trans e)
      omega)
  rw [List.length_append, List.length_singleton] at hv
  rw [hv] at O8 V8
  subst hv
  clear hown8 hg8 hv8
  go_wp2_with fail
  go_ret
  refine ⟨.slice ao8 (sts.length + 1) cap8, by first | rfl | simp, World.cell?_setCell_same _ _ _ hc8, by simpa using hz8, ⟨?_, fun s hs => ?_⟩, B8.out.setCell (p := ⟨b, 0, none⟩) HM.out _, fun k hk hkb hne => (heap_setCell_other w8 ⟨b, 0, none⟩ k _ (fun e => hkb e)).trans (K8.out k hk hne), V8.out⟩
  · exact ownsRow_setCell_other (a := ⟨b, 0, none⟩) O8.out (fun e => by have := (O8.out.lt b e).1; omega) _
  · exact ownsRow_setCell_other (a := ⟨b, 0, none⟩) (F8.out s hs) (fun e => by have := ((F8.out s hs).lt b e).1; omega) _

end Go.Proofs.YtcfcmalaabmceaaGreatDoor


/- The walk of derivation.Prove, where the goal follows. -/
namespace Go.Proofs.YtcfcmalaabmceaaGreatDoor
open Go.RowKit
set_option linter.unusedVariables false

theorem shl_fullD {m : Nat} (h : m < 32) : 1#32 <<< m - 1#32 = fullN m := by
  apply BitVec.eq_of_toNat_eq
  rw [fullN_toNat m (by omega), BitVec.toNat_sub, BitVec.toNat_shiftLeft]
  have h1 : 2 ^ m < 2 ^ 32 := Nat.pow_lt_pow_right (by omega) h
  have h2 : 0 < 2 ^ m := Nat.two_pow_pos m
  simp [Nat.shiftLeft_eq]
  omega
theorem cell_heapD {w w' : World} {b o : Nat} {v : Value} (h : w'.heap[b]? = w.heap[b]?) (hc : w.cell? ⟨b, o, none⟩ = some v) : w'.cell? ⟨b, o, none⟩ = some v := by
  rw [← hc]; unfold World.cell?; simp only [h]
theorem own_heapD {w w' : World} {B : Nat} {e : TypeId} {size n : Nat} {v : Value} {xs : List Value} (h : w.ownsRow B e size v n xs) (hk : ∀ j, v.ownBlock = some j → w'.heap[j]? = w.heap[j]?) : w'.ownsRow B e size v n xs := by
  refine ⟨h.1, ?_⟩
  rcases h.2 with h | ⟨g, cap, cur, hv, hg, hc, rest⟩
  · exact .inl h
  · exact .inr ⟨g, cap, cur, hv, hg, (hk g (by rw [hv]; rfl)).trans hc, rest⟩
attribute [local irreducible] Go.wpQuiet
set_option maxHeartbeats 3200000 in
set_option maxRecDepth 100000 in
theorem dprove_any (m : Nat) (fs : List F) (g : F) (v : Value) (w : World) (hv : RdF w v fs) (hm : m ≤ 16) (hval : validF (m : Int) fs = 0) (hg1 : sub g.1 (fullN m)) (hg2 : sub g.2 (fullN m)) (him : impS fs g = true) :
    Calls Tryz.prog 16 #[.int .i64 (m : Int), v, .agg #[.int .u32 (iv g.1), .int .u32 (iv g.2)]] w fun e w' => ∃ (v' : Value) (sts : List St3), e = .returned (.tuple #[v', .int .i64 0]) ∧ OwnSt w' w.heap.size v' sts ∧ sts.map toS = proveD fs g ∧ Below w.heap.size w w' := by
  have hb0 := below_alloc w (.cells #[.int .u32 (iv g.1), .int .u32 (iv g.2)] 49)
  have C2 := hid (fun (W : World) h => cells2 (w := w) (a := .int .u32 (iv g.1)) (b := .int .u32 (iv g.2)) (t := 49) W h)
  have V0 := hid (RdC.below hv hb0)
  obtain ⟨w0, hw0⟩ : ∃ w0 : World, w.alloc (.cells #[.int .u32 (iv g.1), .int .u32 (iv g.2)] 49) = w0 := ⟨_, rfl⟩
  rw [hw0] at hb0 C2 V0
  have W0 := hid hw0
  have B0 := hid hb0
  have VA := hid (fun (W : World) (h : Below w0.heap.size w0 W) => validF_any (m : Int) fs v W (RdC.below V0.out h))
  rw [hval] at VA
  have IM := hid (fun (W : World) (h : Below w0.heap.size w0 W) => show Calls Tryz.prog 35 #[v, .agg #[.int .u32 (iv g.1), .int .u32 (iv g.2)]] W fun e w' => e = .returned (.bool (impS fs g)) ∧ Below W.heap.size W w' from implies_any fs g v W (RdC.below V0.out h))
  rw [him] at IM
  have TR := hid (fun (W : World) (h : Below w0.heap.size w0 W) => show Calls Tryz.prog 37 #[v, .int .u32 (iv g.1)] W fun e w' => ∃ v', e = .returned v' ∧ w'.ownsRow W.heap.size 3 1 v' (traceS fs g.1).length ((traceS fs g.1).map encI) ∧ (traceS fs g.1).length ≤ 4294967296 ∧ Below W.heap.size W w' from trace_any fs g.1 v W (RdC.below V0.out h))
  have SBQ := hid (show subB (g.1 ||| g.2) (1#32 <<< m - 1#32) = true from by rw [shl_fullD (by omega)]; exact subB_iff.2 (sub_or_iff.2 ⟨hg1, hg2⟩))
  obtain ⟨fo, fcap, rfl, -⟩ := hv
  have m0 : (0 : Int) ≤ (m : Int) := by omega
  have m1 : (m : Int) ≤ 16 := by omega
  have HM := hid hm
  obtain ⟨c0, c1⟩ := C2.out _ (Below.refl _ _)
  clear hb0 hw0 hval hg1 hg2 him hm
  go_enter Tryz.func16, Tryz.ntmps16
  go_upto_region 1 with fail
  rw [W0.out]
  go_wp2_with fail
  refine (VA.out _ (Below.refl _ _)).mono ?_
  rintro e w1 ⟨rfl, hb1⟩
  have D1 := hid hb1
  obtain ⟨k0, k1⟩ := C2.out _ hb1
  have DU := hid (fun i : After w1 => Calls.after_same i (duniv_any m (by have := HM.out; omega) i.world))
  have DS := hid (fun i : After w1 => show Calls Tryz.prog 33 #[.int .u32 (iv (g.1 ||| g.2)), .int .u32 (iv (1#32 <<< m - 1#32))] i.world fun e w' => e = .returned (.bool true) ∧ ∃ j : After w1, w' = j.world from by
    have h := Calls.after_same i (dsub_any (g.1 ||| g.2) (1#32 <<< m - 1#32) i.world)
    rw [SBQ.out] at h
    exact h)
  have f0 : ∀ i : After w1, i.world.cell? ⟨w.heap.size, 0, none⟩ = some (.int .u32 (iv g.1)) := fun i => After.cell k0 i
  have f1 : ∀ i : After w1, i.world.cell? ⟨w.heap.size, 1, none⟩ = some (.int .u32 (iv g.2)) := fun i => After.cell k1 i
  clear hb1 c0 c1 k0 k1
  go_wp2_with fail
  refine wp_region_after (by kernel_rfl) (by kernel_rfl) ?_
  repeat (any_goals (quiet_step (first | with_reducible exact DU.out _ | with_reducible exact DS.out _)))
  refine wpQuiet_nil ?_
  intro wq hq
  have DQ := hid (D1.out.trans (hq.mono D1.out.size))
  obtain ⟨k0, k1⟩ := C2.out _ DQ.out
  clear hq f0 f1
  go_wp2_with fail
  refine (IM.out _ DQ.out).mono ?_
  rintro e w2 ⟨rfl, hb2⟩
  have D2 := hid (DQ.out.trans (hb2.mono DQ.out.size))
  clear hb2 k0 k1
  go_upto_region 9 with fail
  have CB := hid (show (w2.alloc (.cells #[.slice none 0 0] 100)).cell? ⟨w2.heap.size, 0, none⟩ = some (.slice none 0 0) ∧ (w2.alloc (.cells #[.slice none 0 0] 100)).frozen? ⟨w2.heap.size, 0, none⟩ = false from ⟨cell_new, by simp⟩)
  have BA := hid (below_alloc w2 (.cells #[.slice none 0 0] 100))
  have SA := hid (show (w2.alloc (.cells #[.slice none 0 0] 100)).heap.size = w2.heap.size + 1 by simp)
  obtain ⟨w3, hw3⟩ : ∃ w3 : World, w2.alloc (.cells #[.slice none 0 0] 100) = w3 := ⟨_, rfl⟩
  rw [hw3] at CB BA SA ⊢
  obtain ⟨b, hb⟩ : ∃ b, w2.heap.size = b := ⟨_, rfl⟩
  have HB := hid hb
  have D3 := hid (D2.out.trans (BA.out.mono D2.out.size))
  have H0B := hid (show w0.heap.size ≤ b by rw [← hb]; exact D2.out.size)
  rw [hb] at CB SA ⊢
  obtain ⟨k0, k1⟩ := C2.out _ D3.out
  have AD0 := hid (dadd_any b b [] (.slice none 0 0) 2 [] g.1 g.1 (.slice none 0 0) w3 CB.out.1 CB.out.2 ⟨World.ownsRow_nil _ _ _ _, by simp⟩ (World.ownsRow_nil _ _ _ _) (Nat.le_refl _) (by simp))
  clear hw3 hb
  go_wp2_with fail
  refine AD0.out.mono ?_
  rintro e w4 ⟨u4, rfl, hc4, hz4, ho4, hb4, hk4, hn4⟩
  have D4 := hid (D3.out.trans (hb4.mono H0B.out))
  have CW4 := hid (And.intro hc4 hz4)
  have O4 := hid ho4
  obtain ⟨y0, y1⟩ := C2.out _ D4.out
  clear hc4 hz4 ho4 hb4 hk4 hn4 k0 k1 AD0
  go_wp2_with fail
  refine (TR.out _ D4.out).mono ?_
  rintro e w5 ⟨v5, rfl, ho5, hl5, hb5⟩
  have D5 := hid (D4.out.trans (hb5.mono D4.out.size))
  have CW5 := hid (show w5.cell? ⟨b, 0, none⟩ = some u4 ∧ w5.frozen? ⟨b, 0, none⟩ = false from ⟨(hb5.cell (p := ⟨b, 0, none⟩) (World.block_lt_of_cell? _ _ CW4.out.1)).trans CW4.out.1, (hb5.frozen (p := ⟨b, 0, none⟩) (World.block_lt_of_cell? _ _ CW4.out.1)).trans CW4.out.2⟩)
  have O5 := hid (O4.out.below hb5)
  have T5 := hid (own_mono ho5 (show b + 1 ≤ w4.heap.size from World.block_lt_of_cell? _ _ CW4.out.1))
  have TL := hid hl5
  obtain ⟨to_, tcap, rfl, -⟩ := (RdE.of_owns ho5 (by omega)).split
  have tl0 : ((traceS fs g.1).length : Int) ≤ 4294967296 := by omega
  clear ho5 hl5 hb5 O4 CW4 y0 y1
  have TS := hid (trace_spec fs _ g.1 (Nat.le_refl _)).1
  have FC := hid (fun (W : World) (h : Below w0.heap.size w0 W) => RdF.split (RdC.below V0.out h))
  have AD := hid (fun (sts : List St3) (u : Value) (rule : Int) (l : List Nat) (x y : S) (fv : Value) (W : World) hc hz ho hf hl => dadd_any b b sts u rule l x y fv W hc hz ho hf (Nat.le_refl _) hl)
  obtain ⟨RES, hRES⟩ : ∃ RES, runD fs g (traceS fs g.1) [((2, [], (g.1, g.1)) : Stp)] g.1 0 = RES := ⟨_, rfl⟩
  have HRES := hid hRES
  obtain ⟨tr, htr⟩ : ∃ tr, traceS fs g.1 = tr := ⟨_, rfl⟩
  have HTR := hid htr
  rw [htr] at T5 TL tl0 TS hRES ⊢
  have R0 := hid (show runD fs g (tr.drop 0) ([((2, .slice none 0 0, [], (g.1, g.1)) : St3)].map toS) g.1 0 = RES from hRES)
  clear htr hRES
  go_wp2_with fail
  go_loopw [10, 11, 47] (fun nv lv xv wr => ∃ (k : Nat) (sts : List St3) (u : Value) (N : S) (L : Nat), k ≤ tr.length ∧ xv = .int .i64 (k : Int) ∧ nv = .int .u32 (iv N) ∧ lv = .int .i64 (L : Int) ∧ Hid (runD fs g (tr.drop k) (sts.map toS) N L = RES) ∧ Hid (sts.length = 1 + 3 * k ∧ L < 1 + 3 * k) ∧ Hid (wr.cell? ⟨b, 0, none⟩ = some u ∧ wr.frozen? ⟨b, 0, none⟩ = false) ∧ OwnSt wr (b + 1) u sts ∧ wr.ownsRow (b + 1) 3 1 (.slice to_ tr.length tcap) tr.length (tr.map encI) ∧ Below w0.heap.size w0 wr) (fun _ _ xv _ => tr.length - (intOf xv).toNat)
  case atStart => exact ⟨0, _, u4, g.1, 0, Nat.zero_le _, rfl, rfl, rfl, R0, hid ⟨rfl, by omega⟩, CW5, O5.out, T5.out, D5.out⟩
  case round =>
    obtain ⟨k, sts, u, N, L, hk, rfl, rfl, rfl, HR, HL, HC, hos, hot, hnx⟩ := hrel
    have k0 : (0 : Int) ≤ (k : Int) := by omega
    have L0 : (0 : Int) ≤ (L : Int) := by omega
    by_cases hlt : k < tr.length
    · obtain ⟨i, hi⟩ := get_some hlt
      have hltI : (k : Int) < (tr.length : Int) := by omega
      have hif : i < fs.length := TS.out i (List.mem_of_getElem? hi)
      obtain ⟨f, hf⟩ := get_some hif
      have i0 : (0 : Int) ≤ (i : Int) := by omega
      have il : (i : Int) < (fs.length : Int) := by omega
      have hgd : fs.getD i (0#32, 0#32) = f := by rw [List.getD_eq_getElem?_getD, hf]; rfl
      have HR2 := hid (show runD fs g (tr.drop (k + 1)) (sts.map toS ++ [((1, [i], f) : Stp), (3, [(sts.map toS).length], (N, N ||| f.2)), (4, [L, (sts.map toS).length + 1], (g.1, N ||| f.2))]) (N ||| f.2) ((sts.map toS).length + 2) = RES from by
        have h := HR.out
        rw [drop_at hi] at h
        unfold runD at h
        rw [hgd] at h
        exact h)
      obtain ⟨tb, htb⟩ : ∃ tb, to_ = some ⟨tb, 0, none⟩ := by
        rcases hot.2 with ⟨h1, h2⟩ | ⟨g', cap', cur, hv', _⟩
        · omega
        · simp only [Value.slice.injEq] at hv'; exact ⟨g', hv'.1⟩
      subst htb
      have et : wr.cell? ⟨tb, k, none⟩ = some (.int .i64 (i : Int)) := by rw [hot.cellAt k (by omega), List.getElem?_map, hi]; rfl
      obtain ⟨fao, fcap', hfe, -, hfc⟩ := FC.out wr hnx
      simp only [Value.slice.injEq, true_and] at hfe
      obtain ⟨rfl, rfl⟩ := hfe
      obtain ⟨fb, foff, rfl, hd⟩ := hfc i f hf
      obtain ⟨e0, e1⟩ := hd wr (Below.refl _ _)
      have bx6 := below_alloc wr (.cells #[.int .u32 (iv f.1), .int .u32 (iv f.2)] 49)
      have HBW := World.block_lt_of_cell? _ _ HC.out.1
      have HC6 := hid (And.intro ((bx6.cell (p := ⟨b, 0, none⟩) HBW).trans HC.out.1) ((bx6.frozen (p := ⟨b, 0, none⟩) HBW).trans HC.out.2))
      have OS6 := hid (hos.below bx6)
      have OT6 := hid (own_below hot bx6)
      have N6 := hid (hnx.trans (bx6.mono hnx.size))
      have XX6 := hid (cells2 (w := wr) (a := .int .u32 (iv f.1)) (b := .int .u32 (iv f.2)) (t := 49) _ (Below.refl _ _))
      have NU6 := hid (show u.ownBlock ≠ some wr.heap.size from fun e => by have := (hos.rows.lt _ e).2; omega)
      have BNE := hid (show wr.heap.size ≠ b from by have := HBW; simp only at this; omega)
      have SL6 := hid (show sts.length ≤ 20000000000 by have := HL.out; have := TL.out; omega)
      have HLEN := HL
      obtain ⟨w6, hw6⟩ : ∃ w6 : World, wr.alloc (.cells #[.int .u32 (iv f.1), .int .u32 (iv f.2)] 49) = w6 := ⟨_, rfl⟩
      rw [hw6] at HC6 OS6 OT6 N6 XX6
      have W6 := hid hw6
      obtain ⟨bx, hbx⟩ : ∃ bx, wr.heap.size = bx := ⟨_, rfl⟩
      have HBX := hid hbx
      rw [hbx] at XX6 NU6 BNE
      obtain ⟨z60, z61⟩ := XX6.out
      obtain ⟨g60, g61⟩ := C2.out _ N6.out
      have KLT := hid hlt
      have sl0 : (0 : Int) ≤ (sts.length : Int) := by omega
      clear hi hif hf hgd hfc hd bx6 HBW hos hot hnx hlt hbx HC HR hw6
      go_upto_region 15 with fail
      rw [W6.out, HBX.out]
      clear et e0 e1
      have BA8 := hid (below_alloc w6 (.cells #[.int .i64 (i : Int)] 3))
      have HB8 := hid (World.block_lt_of_cell? _ _ HC6.out.1)
      have LIT8 := hid (World.ownsRow_lit (base := b + 1) (e := 3) (size := 1) w6 #[.int .i64 (i : Int)] 1 (by show b + 1 ≤ w6.heap.size; exact HB8.out) (by unfold maxLen; omega) rfl)
      have AD8 := hid (AD.out sts u 1 [i] f.1 f.2 (.slice (some ⟨w6.heap.size, 0, none⟩) 1 1) _ ((BA8.out.cell (p := ⟨b, 0, none⟩) HB8.out).trans HC6.out.1) ((BA8.out.frozen (p := ⟨b, 0, none⟩) HB8.out).trans HC6.out.2) (OS6.out.below BA8.out) LIT8.out (by have := SL6.out; omega))
      have SZ8 := hid BA8.out.size
      go_wp2_with fail
      refine AD8.out.mono ?_
      rintro e w8 ⟨u8, rfl, hc8, hz8, ho8, hb8, hk8, hn8⟩
      have HC8 := hid (And.intro hc8 hz8)
      have N8 := hid (show Below w0.heap.size w0 w8 from N6.out.trans ((BA8.out.mono N6.out.size).trans (hb8.mono H0B.out)))
      have XX8 := hid (show w8.cell? ⟨bx, 0, none⟩ = some (.int .u32 (iv f.1)) ∧ w8.cell? ⟨bx, 1, none⟩ = some (.int .u32 (iv f.2)) from by
        have hl : bx < w6.heap.size := World.block_lt_of_cell? _ _ XX6.out.1
        have hh := hk8 bx (Nat.lt_of_lt_of_le hl BA8.out.size) BNE.out (fun e => NU6.out e.symm)
        exact ⟨cell_heapD hh ((BA8.out.cell (p := ⟨bx, 0, none⟩) hl).trans XX6.out.1), cell_heapD hh ((BA8.out.cell (p := ⟨bx, 1, none⟩) hl).trans XX6.out.2)⟩)
      have OT8 := hid (own_heapD (own_below OT6.out BA8.out) (fun j hj => hk8 j (Nat.lt_of_lt_of_le (OT6.out.lt j hj).2 BA8.out.size) (fun e => by have := (OT6.out.lt j hj).1; omega) (fun e => by
        rcases own_neD OT6.out OS6.out.rows (by decide) with h | h
        · rw [h] at hj; cases hj
        · exact h (hj.trans e))))
      have NU8 := hid (show u8.ownBlock ≠ some bx from fun e => by
        have hl : bx < w6.heap.size := World.block_lt_of_cell? _ _ XX6.out.1
        rcases hn8 bx e with h | h
        · exact NU6.out h
        · exact Nat.lt_irrefl _ (Nat.lt_of_lt_of_le (Nat.lt_of_lt_of_le hl BA8.out.size) h))
      have OS8 := hid ho8
      have SL8 := hid (show (sts ++ [((1, .slice (some ⟨w6.heap.size, 0, none⟩) 1 1, [i], (f.1, f.2)) : St3)]).length ≤ 20000000000 + 8 by rw [List.length_append, List.length_singleton]; have := SL6.out; omega)
      obtain ⟨g80, g81⟩ := C2.out _ N8.out
      obtain ⟨z80, z81⟩ := XX8.out
      clear hc8 hz8 ho8 hb8 hk8 hn8 z60 z61 g60 g61
      have BA9 := hid (below_alloc w8 (.cells #[.int .i64 (sts.length : Int)] 3))
      have HB9 := hid (World.block_lt_of_cell? _ _ HC8.out.1)
      have LIT9 := hid (World.ownsRow_lit (base := b + 1) (e := 3) (size := 1) w8 #[.int .i64 (sts.length : Int)] 1 (by show b + 1 ≤ w8.heap.size; exact HB9.out) (by unfold maxLen; omega) rfl)
      have AD9 := hid (AD.out (sts ++ [((1, .slice (some ⟨w6.heap.size, 0, none⟩) 1 1, [i], (f.1, f.2)) : St3)]) u8 3 [sts.length] N (N ||| f.2) (.slice (some ⟨w8.heap.size, 0, none⟩) 1 1) _ ((BA9.out.cell (p := ⟨b, 0, none⟩) HB9.out).trans HC8.out.1) ((BA9.out.frozen (p := ⟨b, 0, none⟩) HB9.out).trans HC8.out.2) (OS8.out.below BA9.out) LIT9.out (by have := SL8.out; omega))
      have SZ9 := hid BA9.out.size
      go_wp2_with fail
      refine AD9.out.mono ?_
      rintro e w9 ⟨u9, rfl, hc9, hz9, ho9, hb9, hk9, hn9⟩
      have HC9 := hid (And.intro hc9 hz9)
      have N9 := hid (show Below w0.heap.size w0 w9 from N8.out.trans ((BA9.out.mono N8.out.size).trans (hb9.mono H0B.out)))
      have XX9 := hid (show w9.cell? ⟨bx, 0, none⟩ = some (.int .u32 (iv f.1)) ∧ w9.cell? ⟨bx, 1, none⟩ = some (.int .u32 (iv f.2)) from by
        have hl : bx < w8.heap.size := World.block_lt_of_cell? _ _ XX8.out.1
        have hh := hk9 bx (Nat.lt_of_lt_of_le hl BA9.out.size) BNE.out (fun e => NU8.out e.symm)
        exact ⟨cell_heapD hh ((BA9.out.cell (p := ⟨bx, 0, none⟩) hl).trans XX8.out.1), cell_heapD hh ((BA9.out.cell (p := ⟨bx, 1, none⟩) hl).trans XX8.out.2)⟩)
      have OT9 := hid (own_heapD (own_below OT8.out BA9.out) (fun j hj => hk9 j (Nat.lt_of_lt_of_le (OT8.out.lt j hj).2 BA9.out.size) (fun e => by have := (OT8.out.lt j hj).1; omega) (fun e => by
        rcases own_neD OT8.out OS8.out.rows (by decide) with h | h
        · rw [h] at hj; cases hj
        · exact h (hj.trans e))))
      have NU9 := hid (show u9.ownBlock ≠ some bx from fun e => by
        have hl : bx < w8.heap.size := World.block_lt_of_cell? _ _ XX8.out.1
        rcases hn9 bx e with h | h
        · exact NU8.out h
        · exact Nat.lt_irrefl _ (Nat.lt_of_lt_of_le (Nat.lt_of_lt_of_le hl BA9.out.size) h))
      have OS9 := hid ho9
      have SL9 := hid (show ((sts ++ [((1, .slice (some ⟨w6.heap.size, 0, none⟩) 1 1, [i], (f.1, f.2)) : St3)]) ++ [((3, .slice (some ⟨w8.heap.size, 0, none⟩) 1 1, [sts.length], (N, (N ||| f.2))) : St3)]).length ≤ 20000000000 + 9 by rw [List.length_append, List.length_singleton]; have := SL8.out; omega)
      obtain ⟨g90, g91⟩ := C2.out _ N9.out
      obtain ⟨z90, z91⟩ := XX9.out
      clear hc9 hz9 ho9 hb9 hk9 hn9 z80 z81 g80 g81
      obtain ⟨q, hq⟩ : ∃ q, (sts ++ [((1, .slice (some ⟨w6.heap.size, 0, none⟩) 1 1, [i], (f.1, f.2)) : St3)]).length = q := ⟨_, rfl⟩
      have Q := hid (show q = sts.length + 1 by rw [← hq, List.length_append, List.length_singleton])
      have q0 : (0 : Int) ≤ (q : Int) := by omega
      rw [hq]
      clear hq
      have BA10 := hid (below_alloc w9 (.cells #[.int .i64 (L : Int), .int .i64 (q : Int)] 3))
      have HB10 := hid (World.block_lt_of_cell? _ _ HC9.out.1)
      have LIT10 := hid (World.ownsRow_lit (base := b + 1) (e := 3) (size := 1) w9 #[.int .i64 (L : Int), .int .i64 (q : Int)] 2 (by show b + 1 ≤ w9.heap.size; exact HB10.out) (by unfold maxLen; omega) rfl)
      have AD10 := hid (AD.out ((sts ++ [((1, .slice (some ⟨w6.heap.size, 0, none⟩) 1 1, [i], (f.1, f.2)) : St3)]) ++ [((3, .slice (some ⟨w8.heap.size, 0, none⟩) 1 1, [sts.length], (N, N ||| f.2)) : St3)]) u9 4 [L, q] g.1 (N ||| f.2) (.slice (some ⟨w9.heap.size, 0, none⟩) 2 2) _ ((BA10.out.cell (p := ⟨b, 0, none⟩) HB10.out).trans HC9.out.1) ((BA10.out.frozen (p := ⟨b, 0, none⟩) HB10.out).trans HC9.out.2) (OS9.out.below BA10.out) LIT10.out (by have := SL9.out; omega))
      have SZ10 := hid BA10.out.size
      go_wp2_with fail
      refine AD10.out.mono ?_
      rintro e w10 ⟨u10, rfl, hc10, hz10, ho10, hb10, hk10, hn10⟩
      have HC10 := hid (And.intro hc10 hz10)
      have N10 := hid (show Below w0.heap.size w0 w10 from N9.out.trans ((BA10.out.mono N9.out.size).trans (hb10.mono H0B.out)))
      have XX10 := hid (show w10.cell? ⟨bx, 0, none⟩ = some (.int .u32 (iv f.1)) ∧ w10.cell? ⟨bx, 1, none⟩ = some (.int .u32 (iv f.2)) from by
        have hl : bx < w9.heap.size := World.block_lt_of_cell? _ _ XX9.out.1
        have hh := hk10 bx (Nat.lt_of_lt_of_le hl BA10.out.size) BNE.out (fun e => NU9.out e.symm)
        exact ⟨cell_heapD hh ((BA10.out.cell (p := ⟨bx, 0, none⟩) hl).trans XX9.out.1), cell_heapD hh ((BA10.out.cell (p := ⟨bx, 1, none⟩) hl).trans XX9.out.2)⟩)
      have OT10 := hid (own_heapD (own_below OT9.out BA10.out) (fun j hj => hk10 j (Nat.lt_of_lt_of_le (OT9.out.lt j hj).2 BA10.out.size) (fun e => by have := (OT9.out.lt j hj).1; omega) (fun e => by
        rcases own_neD OT9.out OS9.out.rows (by decide) with h | h
        · rw [h] at hj; cases hj
        · exact h (hj.trans e))))
      have NU10 := hid (show u10.ownBlock ≠ some bx from fun e => by
        have hl : bx < w9.heap.size := World.block_lt_of_cell? _ _ XX9.out.1
        rcases hn10 bx e with h | h
        · exact NU9.out h
        · exact Nat.lt_irrefl _ (Nat.lt_of_lt_of_le (Nat.lt_of_lt_of_le hl BA10.out.size) h))
      have OS10 := hid ho10
      have SL10 := hid (show (((sts ++ [((1, .slice (some ⟨w6.heap.size, 0, none⟩) 1 1, [i], (f.1, f.2)) : St3)]) ++ [((3, .slice (some ⟨w8.heap.size, 0, none⟩) 1 1, [sts.length], (N, N ||| f.2)) : St3)]) ++ [((4, .slice (some ⟨w9.heap.size, 0, none⟩) 2 2, [L, q], (g.1, (N ||| f.2))) : St3)]).length ≤ 20000000000 + 10 by rw [List.length_append, List.length_singleton]; have := SL9.out; omega)
      obtain ⟨g100, g101⟩ := C2.out _ N10.out
      obtain ⟨z100, z101⟩ := XX10.out
      clear hc10 hz10 ho10 hb10 hk10 hn10 z90 z91 g90 g91 z100 z101 g100 g101
      obtain ⟨q2, hq2⟩ : ∃ q, ((sts ++ [((1, .slice (some ⟨w6.heap.size, 0, none⟩) 1 1, [i], (f.1, f.2)) : St3)]) ++ [((3, .slice (some ⟨w8.heap.size, 0, none⟩) 1 1, [sts.length], (N, N ||| f.2)) : St3)]).length = q := ⟨_, rfl⟩
      have Q2 := hid (show q2 = sts.length + 2 by rw [← hq2, List.length_append, List.length_singleton, List.length_append, List.length_singleton])
      have q20 : (0 : Int) ≤ (q2 : Int) := by omega
      rw [hq2]
      clear hq2
      have HRF := hid (show runD fs g (tr.drop (k + 1)) ((((sts ++ [((1, .slice (some ⟨w6.heap.size, 0, none⟩) 1 1, [i], (f.1, f.2)) : St3)]) ++ [((3, .slice (some ⟨w8.heap.size, 0, none⟩) 1 1, [sts.length], (N, N ||| f.2)) : St3)]) ++ [((4, .slice (some ⟨w9.heap.size, 0, none⟩) 2 2, [L, q], (g.1, (N ||| f.2))) : St3)]).map toS) (N ||| f.2) q2 = RES from by
        have h := HR2.out
        rw [Q2.out, Q.out]
        simpa [toS] using h)
      have HLF := hid (show (((sts ++ [((1, .slice (some ⟨w6.heap.size, 0, none⟩) 1 1, [i], (f.1, f.2)) : St3)]) ++ [((3, .slice (some ⟨w8.heap.size, 0, none⟩) 1 1, [sts.length], (N, N ||| f.2)) : St3)]) ++ [((4, .slice (some ⟨w9.heap.size, 0, none⟩) 2 2, [L, q], (g.1, (N ||| f.2))) : St3)]).length = 1 + 3 * (k + 1) ∧ q2 < 1 + 3 * (k + 1) from by
        have h := HLEN.out
        rw [Q2.out]
        simp only [List.length_append, List.length_singleton]
        omega)
      go_wp2_with fail
      go_roundw
      case rel => exact ⟨k + 1, _, u10, N ||| f.2, q2, by have := KLT.out; omega, by go_num, rfl, rfl, HRF, HLF, HC10, OS10.out, OT10.out, N10.out⟩
      case measure => have := KLT.out; simp [intOf]; omega
    · have HRD := hid (show proveD fs g = sts.map toS ++ [((2, [], (N, g.2)) : Stp), (4, [L, (sts.map toS).length], g)] from by
        have h := HR.out
        rw [List.drop_eq_nil_of_le (by omega)] at h
        unfold runD at h
        unfold proveD
        rw [HRES.out, ← h])
      have TLB := hid (show tr.length ≤ 4294967296 from TL.out)
      have hkt : k = tr.length := by omega
      have SL := hid (show sts.length ≤ 20000000000 by have := HL.out; have := TLB.out; omega)
      have hltI : ¬ (k : Int) < (tr.length : Int) := by omega
      obtain ⟨j0, j1⟩ := C2.out _ hnx
      have HBL := hid (World.block_lt_of_cell? _ _ HC.out.1)
      have AD1 := hid (AD.out sts u 2 [] N g.2 (.slice none 0 0) wr HC.out.1 HC.out.2 hos (World.ownsRow_nil _ _ _ _) (by have := SL.out; omega))
      have NX := hid hnx
      clear hos hot hnx HC hlt hkt
      go_wp2_with fail
      refine AD1.out.mono ?_
      rintro e w8 ⟨u8, rfl, hc8, hz8, ho8, hb8, hk8, hn8⟩
      have D8 := hid (NX.out.trans (hb8.mono H0B.out))
      obtain ⟨l0, l1⟩ := C2.out _ D8.out
      have HC8 := hid (And.intro hc8 hz8)
      have O8 := hid ho8
      have HB8 := hid (World.block_lt_of_cell? _ _ hc8)
      have SL8 := hid (show (sts ++ [((2, .slice none 0 0, [], (N, g.2)) : St3)]).length ≤ 30000000000 by rw [List.length_append, List.length_singleton]; have := SL.out; omega)
      have BA8 := hid (below_alloc w8 (.cells #[.int .i64 (L : Int), .int .i64 (sts.length : Int)] 3))
      have LIT := hid (World.ownsRow_lit (base := b + 1) (e := 3) (size := 1) w8 #[.int .i64 (L : Int), .int .i64 (sts.length : Int)] 2 (by have := HB8.out; show b + 1 ≤ w8.heap.size; exact HB8.out) (by unfold maxLen; omega) rfl)
      have AD2 := hid (AD.out _ u8 4 [L, sts.length] g.1 g.2 (.slice (some ⟨w8.heap.size, 0, none⟩) 2 2) _ ((BA8.out.cell (p := ⟨b, 0, none⟩) HB8.out).trans HC8.out.1) ((BA8.out.frozen (p := ⟨b, 0, none⟩) HB8.out).trans HC8.out.2) (O8.out.below BA8.out) LIT.out (by have := SL8.out; omega))
      clear hc8 hz8 ho8 hb8 hk8 hn8 j0 j1
      go_wp2_with fail
      refine AD2.out.mono ?_
      rintro e w9 ⟨u9, rfl, hc9, hz9, ho9, hb9, hk9, hn9⟩
      have D9 := hid (show Below w0.heap.size w0 w9 from D8.out.trans ((BA8.out.mono D8.out.size).trans (hb9.mono (by have := H0B.out; exact H0B.out))))
      obtain ⟨sf, hsf, hof, hlf⟩ : ∃ sf : List St3, sf.map toS = proveD fs g ∧ OwnSt w9 (b + 1) u9 sf ∧ sf.length ≤ 40000000000 := ⟨_, by rw [HRD.out]; simp [toS], ho9, by rw [List.length_append, List.length_singleton]; have := SL8.out; omega⟩
      have O9 := hid hof
      have HSF := hid hsf
      obtain ⟨uo, ucap, rfl, -⟩ := RdC.of_owns cS_length hof.rows (by omega)
      clear hz9 ho9 hb9 hk9 hn9 hof hsf hlf
      go_wp2_with fail
      go_ret2
      exact ⟨_, sf, rfl, ⟨own_mono O9.out.rows (by have := B0.out.size; have := H0B.out; omega), fun s hs => own_mono (O9.out.frm s hs) (by have := B0.out.size; have := H0B.out; omega)⟩, HSF.out, B0.out.trans (D9.out.mono B0.out.size)⟩

end Go.Proofs.YtcfcmalaabmceaaGreatDoor


/- The walk of the closure in derivation.right. -/
namespace Go.Proofs.YtcfcmalaabmceaaGreatDoor
open Go.RowKit
set_option linter.unusedVariables false

theorem RdSt.split {w : World} {v : Value} {sts : List St3} (h : RdC cS w v sts) : ∃ ao cap, v = .slice ao sts.length cap ∧ sts.length ≤ 35184372088832 ∧
    ∀ (k : Nat) (s : St3), sts[k]? = some s → ∃ b off, ao = some ⟨b, off, none⟩ ∧ ∀ wr, Below w.heap.size w wr → wr.cell? ⟨b, off + k * 4, none⟩ = some (.int .i64 s.1) ∧ wr.cell? ⟨b, off + k * 4 + 1, none⟩ = some s.2.1 ∧ wr.cell? ⟨b, off + k * 4 + 2, none⟩ = some (.int .u32 (iv s.2.2.2.1)) ∧ wr.cell? ⟨b, off + k * 4 + 3, none⟩ = some (.int .u32 (iv s.2.2.2.2)) := by
  obtain ⟨ao, cap, rfl, -, h2, h3⟩ := h
  refine ⟨ao, cap, rfl, h2, fun k x hx => ?_⟩
  obtain ⟨b, off, rfl, hb, hc⟩ := h3 (by have := (List.getElem?_eq_some_iff.1 hx).1; omega)
  have g : ∀ (j : Nat) (u : Value), (cS x)[j]? = some u → w.cell? ⟨b, off + (k * 4 + j), none⟩ = some u := fun j u hu => hc _ _ (flat_at cS_length sts k x j u hx hu)
  have g0 := g 0 _ rfl
  have g1 := g 1 _ rfl
  have g2 := g 2 _ rfl
  have g3 := g 3 _ rfl
  exact ⟨b, off, rfl, fun wr hn => ⟨(hn.cell (p := ⟨b, off + k * 4, none⟩) hb).trans (by simpa using g0), (hn.cell (p := ⟨b, off + k * 4 + 1, none⟩) hb).trans (by simpa [Nat.add_assoc] using g1), (hn.cell (p := ⟨b, off + k * 4 + 2, none⟩) hb).trans (by simpa [Nat.add_assoc] using g2), (hn.cell (p := ⟨b, off + k * 4 + 3, none⟩) hb).trans (by simpa [Nat.add_assoc] using g3)⟩⟩

end Go.Proofs.YtcfcmalaabmceaaGreatDoor


/- The walks of derivation's Check and Proves, where each step is right. -/
namespace Go.Proofs.YtcfcmalaabmceaaGreatDoor
open Go.RowKit
set_option linter.unusedVariables false



end Go.Proofs.YtcfcmalaabmceaaGreatDoor


/- The walk of derivation.Prove, where the goal does not follow. -/
namespace Go.Proofs.YtcfcmalaabmceaaGreatDoor
open Go.RowKit
set_option linter.unusedVariables false
set_option linter.unusedSimpArgs false

attribute [local irreducible] Go.wpQuiet

end Go.Proofs.YtcfcmalaabmceaaGreatDoor

