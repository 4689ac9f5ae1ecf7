/- Texts that belong together, in one file. -/
import Derived.Test.YtgahpgmagfngfaaGreatDoorGNdF
import Derived.Test.YtgahpgmagfngfaaGreatDoorGNdD
import Derived.Deep.DeepCutAuto
import Derived.Test.YtgahpgmagfngfaaGreatDoorGNdE
/- The walk of inclusion.states. -/
namespace Go.Proofs.YtgahpgmagfngfaaGreatDoor
open Go.RowKit
set_option linter.unusedVariables false

/-! States in a row. -/
abbrev S5 := Value × Int × Int × Value × SN
def cSt (x : S5) : List Value := [.string (nmT x.2.2.2.2.1), x.1, .int .i64 x.2.1, .int .i64 x.2.2.1, x.2.2.2.1]
theorem cSt_length (x : S5) : (cSt x).length = 5 := rfl
theorem undSts : Tryz.prog.underlying 75 = some (.slice 114) := by kernel_rfl
theorem infoSts : (Tryz.prog.info? 114).map (fun i => (i.zero, i.size, i.bytes)) = some (some (.agg #[.string (ByteArray.mk #[]), .slice none 0 0, .int .i64 0, .int .i64 0, .slice none 0 0]), 5, 80) := by kernel_rfl
structure OutS (w : World) (B : Nat) (v : Value) (xs : List S5) : Prop where
  own : w.ownsRow B 114 5 v xs.length (xs.flatMap cSt)
  rd : ∀ x ∈ xs, RdE encI w x.1 x.2.2.2.2.2
  far : ∀ x ∈ xs, FarV x.1 v.ownBlock
  pos : ∀ x ∈ xs, ∃ po pn pc, x.2.2.2.1 = .slice po pn pc
theorem OutS.below {w w' : World} {B : Nat} {v : Value} {xs : List S5} (h : OutS w B v xs) (hb : Below w.heap.size w w') : OutS w' B v xs :=
  ⟨own_below h.own hb, fun x hx => (h.rd x hx).below hb, h.far, h.pos⟩
theorem OutS.kept {w w' : World} {B : Nat} {v : Value} {xs : List S5} {row : Option Nat} (h : OutS w B v xs) (hg : w.grownBy w' row) (hn : v.ownBlock = none ∨ v.ownBlock ≠ row) (hf : ∀ x ∈ xs, FarV x.1 row) : OutS w' B v xs :=
  ⟨h.own.kept hg hn, fun x hx => RdE.grownI (h.rd x hx) hg (hf x hx), h.far, h.pos⟩
theorem OutS.push {w w' : World} {B : Nat} {v v' : Value} {xs : List S5} {x : S5} (h : OutS w B v xs) (hr : RdE encI w x.1 x.2.2.2.2.2) (hf : FarV x.1 v.ownBlock) (hp : ∃ po pn pc, x.2.2.2.1 = .slice po pn pc)
    (ho : w'.ownsRow B 114 5 v' (xs ++ [x]).length ((xs ++ [x]).flatMap cSt)) (hg : w.grownBy w' v.ownBlock) (hl : v'.ownBlock = v.ownBlock ∨ v'.ownBlock = some w.heap.size) : OutS w' B v' (xs ++ [x]) := by
  have key : ∀ y ∈ xs ++ [x], RdE encI w y.1 y.2.2.2.2.2 ∧ FarV y.1 v.ownBlock ∧ ∃ po pn pc, y.2.2.2.1 = .slice po pn pc := fun y hy => by
    rcases List.mem_append.1 hy with hy | hy
    · exact ⟨h.rd y hy, h.far y hy, h.pos y hy⟩
    · rw [List.mem_singleton] at hy; subst hy; exact ⟨hr, hf, hp⟩
  refine ⟨ho, fun y hy => RdE.grownI (key y hy).1 hg (key y hy).2.1, fun y hy => ?_, fun y hy => (key y hy).2.2⟩
  rcases hl with e | e
  · rw [e]; exact (key y hy).2.1
  · rw [e]; exact farV_blk (key y hy).1 (Nat.le_refl _)
theorem cSt_one {x : S5} (h1 : x.1.oneCell' = true) (h2 : x.2.2.2.1.oneCell' = true) : ∀ u ∈ cSt x, u.oneCell' = true := by
  intro u hu
  simp only [cSt, List.mem_cons, List.not_mem_nil, or_false] at hu
  rcases hu with rfl | rfl | rfl | rfl | rfl
  · rfl
  · exact h1
  · rfl
  · rfl
  · exact h2
theorem cells_newSt (w : World) (x : S5) {t : TypeId} : ∀ j u, (cSt x)[j]? = some u → (w.alloc (.cells #[.string (nmT x.2.2.2.2.1), x.1, .int .i64 x.2.1, .int .i64 x.2.2.1, x.2.2.2.1] t)).cell? (Addr.add ⟨w.heap.size, 0, none⟩ j) = some u := by
  intro j u hj
  have hj2 : j < 5 := (List.getElem?_eq_some_iff.1 hj).1
  rcases (show j = 0 ∨ j = 1 ∨ j = 2 ∨ j = 3 ∨ j = 4 by omega) with rfl | rfl | rfl | rfl | rfl <;> (simp [cSt] at hj; subst hj; simp [Addr.add])
theorem OutS.cells {w : World} {B g n cap : Nat} {xs : List S5} (h : OutS w B (.slice (some ⟨g, 0, none⟩) n cap) xs) {i : Nat} {x : S5} (hi : xs[i]? = some x) :
    w.cell? ⟨g, i * 5, none⟩ = some (.string (nmT x.2.2.2.2.1)) ∧ w.cell? ⟨g, i * 5 + 1, none⟩ = some x.1 ∧ w.cell? ⟨g, i * 5 + 2, none⟩ = some (.int .i64 x.2.1) ∧ w.cell? ⟨g, i * 5 + 3, none⟩ = some (.int .i64 x.2.2.1) ∧ w.cell? ⟨g, i * 5 + 4, none⟩ = some x.2.2.2.1 := by
  have hl := (List.getElem?_eq_some_iff.1 hi).1
  have hn : n = xs.length := by
    obtain ⟨a, c, e⟩ := own_shape h.own
    simp only [Value.slice.injEq] at e
    exact e.2.1
  have hf := h.own
  have c : ∀ j u, (cSt x)[j]? = some u → j < 5 → w.cell? ⟨g, i * 5 + j, none⟩ = some u := fun j u hu hj => by
    subst hn
    rw [hf.cellAt (i * 5 + j) (by omega)]
    exact flat_at cSt_length xs i x j u hi hu
  exact ⟨by simpa using c 0 _ rfl (by omega), c 1 _ rfl (by omega), c 2 _ rfl (by omega), c 3 _ rfl (by omega), c 4 _ rfl (by omega)⟩

/-! What follow leaves in its box. -/
theorem FolQ.uni {d : DN} {s : SN} {ix : Int} {w : World} {e : Ending} {w' : World} (h : FolQ d s ix w e w') :
    ∃ (nm : ByteArray) (ao : Option Addr) (an ac : Nat) (x : Int) (po : Option Addr) (pn pc : Nat), e = .returned (.tuple #[.agg #[.string nm, .slice ao an ac, .int .i64 0, .int .i64 x, .slice po pn pc], .bool (appS d s)]) ∧
      (appS d s = true → nm = nmT d.2.1 ∧ x = ix ∧ RdE encI w' (.slice ao an ac) (s.2.map (goS d)) ∧ ∀ j, j < w.heap.size → FarV (.slice ao an ac) (some j)) ∧ Below w.heap.size w w' := by
  obtain ⟨⟨h1, rfl⟩ | ⟨h1, ao, an, ac, po, pn, pc, rfl, h2, h3⟩, hb⟩ := h
  · exact ⟨_, _, _, _, _, _, _, _, by rw [h1], (fun h => by rw [h1] at h; cases h), hb⟩
  · exact ⟨_, ao, an, ac, ix, po, pn, pc, by rw [h1], fun _ => ⟨rfl, rfl, h2, h3⟩, hb⟩
/-- The box q of the next state. -/
structure FolB (d : DN) (s : SN) (ix : Int) (w : World) (q : Nat) (nm : ByteArray) (av : Value) (x : Int) (pv : Value) (wx : World) : Prop where
  c0 : wx.cell? ⟨q, 0, none⟩ = some (.string nm)
  c1 : wx.cell? ⟨q, 1, none⟩ = some av
  c2 : wx.cell? ⟨q, 2, none⟩ = some (.int .i64 0)
  c3 : wx.cell? ⟨q, 3, none⟩ = some (.int .i64 x)
  c4 : wx.cell? ⟨q, 4, none⟩ = some pv
  f2 : wx.frozen? ⟨q, 2, none⟩ = false
  lo : w.heap.size ≤ q
  below : Below w.heap.size w wx
  ok : appS d s = true → nm = nmT d.2.1 ∧ x = ix ∧ RdE encI wx av (s.2.map (goS d)) ∧ ∀ j, (j < w.heap.size ∨ j = q) → FarV av (some j)
theorem FolB.alloc {d : DN} {s : SN} {ix : Int} {w w1 w2 : World} {nm : ByteArray} {ao : Option Addr} {an ac : Nat} {x : Int} {pv : Value} (h1 : Below w.heap.size w w1) (hb : Below w1.heap.size w1 w2)
    (hok : appS d s = true → nm = nmT d.2.1 ∧ x = ix ∧ RdE encI w2 (.slice ao an ac) (s.2.map (goS d)) ∧ ∀ j, j < w1.heap.size → FarV (.slice ao an ac) (some j)) :
    FolB d s ix w w2.heap.size nm (.slice ao an ac) x pv (w2.alloc (.cells #[.string nm, .slice ao an ac, .int .i64 0, .int .i64 x, pv] 114)) := by
  obtain ⟨z0, z1, z2, z3, z4⟩ := cells5 (w := w2) (a := .string nm) (b := .slice ao an ac) (c := .int .i64 0) (d := .int .i64 x) (f := pv) (t := 114) _ (Below.refl _ _)
  have hb0 := h1.trans (hb.mono h1.size)
  refine ⟨z0, z1, z2, z3, z4, World.frozen?_alloc_new _ _ _ _, hb0.size, hb0.alloc hb0.size _, fun ha => ?_⟩
  obtain ⟨e1, e2, h3, h4⟩ := hok ha
  refine ⟨e1, e2, h3.below (below_alloc _ _), fun j hj => ?_⟩
  rcases hj with hj | rfl
  · exact h4 j (Nat.lt_of_lt_of_le hj h1.size)
  · exact farV_blk h3 (Nat.le_refl _)
theorem FolB.store {d : DN} {s : SN} {ix : Int} {w w1 w2 : World} {q : Nat} {nm : ByteArray} {ao : Option Addr} {an ac : Nat} {x : Int} {pv x0 x1 x2 x3 x4 : Value} (h1 : Below w.heap.size w w1) (hb : Below w1.heap.size w1 w2) (hq : w.heap.size ≤ q) (hq1 : q < w1.heap.size)
    (z0 : w2.cell? ⟨q, 0, none⟩ = some x0) (z1 : w2.cell? ⟨q, 1, none⟩ = some x1) (z2 : w2.cell? ⟨q, 2, none⟩ = some x2) (z3 : w2.cell? ⟨q, 3, none⟩ = some x3) (z4 : w2.cell? ⟨q, 4, none⟩ = some x4) (zf : w2.frozen? ⟨q, 2, none⟩ = false)
    (hok : appS d s = true → nm = nmT d.2.1 ∧ x = ix ∧ RdE encI w2 (.slice ao an ac) (s.2.map (goS d)) ∧ ∀ j, j < w1.heap.size → FarV (.slice ao an ac) (some j)) :
    FolB d s ix w q nm (.slice ao an ac) x pv (((((w2.setCell ⟨q, 0, none⟩ (.string nm)).setCell ⟨q, 1, none⟩ (.slice ao an ac)).setCell ⟨q, 2, none⟩ (.int .i64 0)).setCell ⟨q, 3, none⟩ (.int .i64 x)).setCell ⟨q, 4, none⟩ pv) := by
  obtain ⟨r0, r1, r2, r3, r4⟩ := set5I z0 z1 z2 z3 z4 (y0 := .string nm) (y1 := .slice ao an ac) (y2 := .int .i64 0) (y3 := .int .i64 x) (y4 := pv) rfl
  have hb0 := h1.trans (hb.mono h1.size)
  refine ⟨r0, r1, r2, r3, r4, by simp [zf], hq, set5_below hb0 hq, fun ha => ?_⟩
  obtain ⟨e1, e2, h3, h4⟩ := hok ha
  have f := h4 q hq1
  refine ⟨e1, e2, RdE.setFar (p := ⟨q, 4, none⟩) (RdE.setFar (p := ⟨q, 3, none⟩) (RdE.setFar (p := ⟨q, 2, none⟩) (RdE.setFar (p := ⟨q, 1, none⟩) (RdE.setFar (p := ⟨q, 0, none⟩) h3 f) f) f) f) f, fun j hj => ?_⟩
  rcases hj with hj | rfl
  · exact h4 j (Nat.lt_of_lt_of_le hj h1.size)
  · exact f

/-! The map of the names. -/
abbrev OwnSI (w : World) (b n : Nat) (G : KS → Nat) (S : List SN) : Prop := OwnG (strKeys (P := Tryz.prog) (k := 9) undStrI) (.int .i64 0) w b n (fun k => .int .i64 (G k : Int)) (hasK (S.map nmK))
theorem undMapSI : Tryz.prog.underlying 116 = some (.map 9 3) := by kernel_rfl
theorem OwnSI.made (w : World) : OwnSI (w.alloc (.map #[] 0)) w.heap.size 0 (fun _ => 0) [] := (OwnG.made _ _ _).congr (fun s => rfl) (fun s => rfl)
theorem OwnSI.put {w : World} {b n m : Nat} {G : KS → Nat} {S : List SN} {s : SN} (h : OwnG (strKeys (P := Tryz.prog) (k := 9) undStrI) (.int .i64 0) w b n (updG (fun k => Value.int .i64 (G k : Int)) (nmK s) (.int .i64 (m : Int))) (updG (hasK (S.map nmK)) (nmK s) true)) : OwnSI w b n (updG G (nmK s) m) (S ++ [s]) := by
  refine h.congr (fun k => ?_) (fun k => ?_)
  · show (if k = nmK s then Value.int .i64 (m : Int) else .int .i64 (G k : Int)) = .int .i64 ((if k = nmK s then m else G k : Nat) : Int)
    by_cases e : k = nmK s
    · rw [if_pos e, if_pos e]
    · rw [if_neg e, if_neg e]
  · show (if k = nmK s then true else hasK (S.map nmK) k) = hasK ((S ++ [s]).map nmK) k
    rw [List.map_append, List.map_cons, List.map_nil, hasK_snoc]

end Go.Proofs.YtgahpgmagfngfaaGreatDoor


/- The walk of inclusion.states. -/
namespace Go.Proofs.YtgahpgmagfngfaaGreatDoor
open Go.RowKit
set_option linter.unusedVariables false

abbrev sts (ms : List S5) : List SN := ms.map fun x => x.2.2.2.2
/-- How far states has come. -/
structure StR (L : List DN) (s0 : SN) (B mb : Nat) (vo : Value) (ms : List S5) (G : KS → Nat) (i k : Nat) (w : World) : Prop where
  out : OutS w B vo ms
  map : OwnSI w mb ms.length G (sts ms)
  ne : vo.ownBlock ≠ some mb
  farm : ∀ x ∈ ms, FarV x.1 (some mb)
  zero : (sts ms)[0]? = some s0
  nd : (sts ms).Nodup
  rch : ∀ s ∈ sts ms, Rch L s0 s
  cov : ∀ j d, L[j]? = some d → (0 < i ∨ j < k) → appS d s0 = true → toSN d s0 ∈ sts ms
theorem StR.below {L : List DN} {s0 : SN} {B mb : Nat} {vo : Value} {ms : List S5} {G : KS → Nat} {i k : Nat} {w w' : World} (h : StR L s0 B mb vo ms G i k w) (hb : Below w.heap.size w w') : StR L s0 B mb vo ms G i k w' :=
  ⟨h.out.below hb, h.map.below hb, h.ne, h.farm, h.zero, h.nd, h.rch, h.cov⟩
theorem StR.few {L : List DN} {s0 : SN} {B mb : Nat} {vo : Value} {ms : List S5} {G : KS → Nat} {i k : Nat} {w : World} (h : StR L s0 B mb vo ms G i k w) {m n : Nat} {N : Nat → Nat} (hm : m ≤ 4) (hn : n ≤ 4) (hN : ∀ k, N k ≤ 4) (hL : ∀ d ∈ L, VI m N d) (h0 : VS m n N s0) : ms.length ≤ 1024 := by
  have := states_few hm hn hN h.nd (fun s hs => VS.rch hL h0 (h.rch s hs))
  rwa [List.length_map] at this
/-- The next dependency, which leads nowhere new. -/
theorem StR.skip {L : List DN} {s0 : SN} {B mb : Nat} {vo : Value} {ms : List S5} {G : KS → Nat} {i k : Nat} {w w' : World} (h : StR L s0 B mb vo ms G i k w) (hb : Below w.heap.size w w') {d : DN} {x : S5} (hx : ms[i]? = some x) (hd : L[k]? = some d) (ha : appS d x.2.2.2.2 = true → toSN d x.2.2.2.2 ∈ sts ms) : StR L s0 B mb vo ms G i (k + 1) w' := by
  have h' := h.below hb
  refine ⟨h'.out, h'.map, h'.ne, h'.farm, h'.zero, h'.nd, h'.rch, fun j d' hj hk hap => ?_⟩
  by_cases hi : 0 < i
  · exact h.cov j d' hj (.inl hi) hap
  · by_cases hjk : j < k
    · exact h.cov j d' hj (.inr hjk) hap
    · have e : j = k := by omega
      subst e
      rw [hd] at hj
      cases hj
      have e0 : i = 0 := by omega
      subst e0
      have hz := h.zero
      rw [List.getElem?_map, hx] at hz
      have hz : x.2.2.2.2 = s0 := by simpa using hz
      rw [hz] at ha
      exact ha hap
/-- A new state. -/
theorem StR.push {L : List DN} {s0 : SN} {B mb : Nat} {vo v' : Value} {ms : List S5} {G : KS → Nat} {i k : Nat} {w w5 w6 w7 : World} (h : StR L s0 B mb vo ms G i k w) {d : DN} {x y : S5} (hx : ms[i]? = some x) (hd : L[k]? = some d) (ha : appS d x.2.2.2.2 = true) (hn : toSN d x.2.2.2.2 ∉ sts ms)
    (hy : y.2.2.2.2 = toSN d x.2.2.2.2) (hb : Below w.heap.size w w5) (hg5 : w5.grownBy w6 (some mb))
    (hm : OwnSI w6 mb (ms.length + 1) (updG G (nmK (toSN d x.2.2.2.2)) ms.length) (sts ms ++ [toSN d x.2.2.2.2]))
    (hb7 : Below w6.heap.size w6 w7) {w8 : World} (ho : w8.ownsRow B 114 5 v' (ms ++ [y]).length ((ms ++ [y]).flatMap cSt)) (hg : w7.grownBy w8 vo.ownBlock) (hv : v'.ownBlock = vo.ownBlock ∨ v'.ownBlock = some w7.heap.size)
    (hr : RdE encI w7 y.1 y.2.2.2.2.2) (hf : FarV y.1 vo.ownBlock) (hfm : FarV y.1 (some mb)) (hp : ∃ po pn pc, y.2.2.2.1 = .slice po pn pc) : StR L s0 B mb v' (ms ++ [y]) (updG G (nmK (toSN d x.2.2.2.2)) ms.length) i (k + 1) w8 := by
  have es : sts (ms ++ [y]) = sts ms ++ [toSN d x.2.2.2.2] := by
    show (ms ++ [y]).map (fun x => x.2.2.2.2) = _
    rw [List.map_append, List.map_singleton, hy]
  have h5 := h.below hb
  have o6 := h5.out.kept hg5 (.inr h.ne) h.farm
  have o7 := o6.below hb7
  have m7 := OwnG.below hm hb7
  have mne : some mb ≠ vo.ownBlock := fun e => h.ne e.symm
  have hxs : x.2.2.2.2 ∈ sts ms := List.mem_map.2 ⟨x, List.mem_of_getElem? hx, rfl⟩
  refine ⟨OutS.push o7 hr hf hp ho hg hv, ?_, ?_, fun z hz => ?_, ?_, ?_, fun s hs => ?_, fun j d' hj hk hap => ?_⟩
  · rw [es, List.length_append]
    exact OwnG.kept m7 hg mne
  · rcases hv with e | e
    · rw [e]; exact h.ne
    · rw [e]
      have := (OwnG.lt m7)
      intro e2
      have : w7.heap.size = mb := Option.some.inj e2
      omega
  · rcases List.mem_append.1 hz with hz | hz
    · exact h.farm z hz
    · rw [List.mem_singleton] at hz; subst hz; exact hfm
  · have h0 : 0 < (sts ms).length := by
      have := (List.getElem?_eq_some_iff.1 h.zero).1; exact this
    rw [es, List.getElem?_append_left h0]; exact h.zero
  · rw [es, List.nodup_append]
    refine ⟨h.nd, by simp, fun a ha b hb => ?_⟩
    rw [List.mem_singleton] at hb
    subst hb
    exact fun e => hn (e ▸ ha)
  · rw [es] at hs
    rcases List.mem_append.1 hs with hs | hs
    · exact h.rch s hs
    · rw [List.mem_singleton] at hs; subst hs; exact .step d _ (List.mem_of_getElem? hd) (h.rch _ hxs) ha
  · rw [es]
    by_cases hi : 0 < i
    · exact List.mem_append_left _ (h.cov j d' hj (.inl hi) hap)
    · by_cases hjk : j < k
      · exact List.mem_append_left _ (h.cov j d' hj (.inr hjk) hap)
      · have e : j = k := by omega
        subst e
        rw [hd] at hj
        cases hj
        have e0 : i = 0 := by omega
        subst e0
        have hz := h.zero
        rw [List.getElem?_map, hx] at hz
        have hz : x.2.2.2.2 = s0 := by simpa using hz
        rw [hz]
        simp

theorem StR.outer {L : List DN} {s0 : SN} {B mb : Nat} {vo : Value} {ms : List S5} {G : KS → Nat} {i k : Nat} {w : World} (h : StR L s0 B mb vo ms G i k w) (hk : L.length ≤ k) : StR L s0 B mb vo ms G (i + 1) 0 w :=
  ⟨h.out, h.map, h.ne, h.farm, h.zero, h.nd, h.rch, fun j d hj _ hap => h.cov j d hj (.inr (Nat.lt_of_lt_of_le (List.getElem?_eq_some_iff.1 hj).1 hk)) hap⟩
theorem StR.done {L : List DN} {s0 : SN} {B mb : Nat} {vo : Value} {ms : List S5} {G : KS → Nat} {i k : Nat} {w : World} (h : StR L s0 B mb vo ms G i k w) (hi : ms.length ≤ i) {s1 : SN} : (∃ d ∈ L, appS d s0 = true ∧ toSN d s0 = s1) → s1 ∈ sts ms := by
  rintro ⟨d, hd, ha, rfl⟩
  obtain ⟨j, hj⟩ := List.mem_iff_getElem?.1 hd
  have h0 := (List.getElem?_eq_some_iff.1 h.zero).1
  rw [List.length_map] at h0
  exact h.cov j d hj (.inl (by omega)) ha
theorem OutS.shape {w : World} {B : Nat} {v : Value} {xs : List S5} (h : OutS w B v xs) (h0 : 0 < xs.length) : ∃ g cap, v = .slice (some ⟨g, 0, none⟩) xs.length cap := by
  rcases h.own.2 with ⟨h1, h2⟩ | ⟨g, cap, cur, hv, -⟩
  · omega
  · exact ⟨g, cap, hv⟩
/-- What states gives. -/
def StaQ (L : List DN) (s0 s1 : SN) (w : World) (e : Ending) (w' : World) : Prop :=
  ∃ (v : Value) (at_ : Int), e = .returned (.tuple #[v, .int .i64 at_, .int .i64 0]) ∧ (0 ≤ at_ → Rch L s0 s1) ∧ ((∃ d ∈ L, appS d s0 = true ∧ toSN d s0 = s1) → 0 ≤ at_) ∧ Below w.heap.size w w'
theorem StR.known {L : List DN} {s0 : SN} {B mb : Nat} {vo : Value} {ms : List S5} {G : KS → Nat} {i k : Nat} {w : World} (h : StR L s0 B mb vo ms G i k w) {m n : Nat} {N : Nat → Nat} (hm : m ≤ 4) (hn : n ≤ 4) (hN : ∀ k, N k ≤ 4) (hL : ∀ d ∈ L, VI m N d) (h0 : VS m n N s0) {s : SN} (hs : VS m n N s) : hasK ((sts ms).map nmK) (nmK s) = true ↔ s ∈ sts ms := by
  rw [hasK_iff, List.mem_map]
  constructor
  · rintro ⟨s', h1, h2⟩
    have hs' := VS.rch hL h0 (h.rch s' h1)
    have := nmK_inj (by rw [hs'.len]; omega) (by rw [hs.len]; omega) (by have := hs'.t; omega) (by have := hs.t; omega) (fun a ha => by have := hs'.a a ha; have := hN s'.1; omega) (fun a ha => by have := hs.a a ha; have := hN s.1; omega) h2
    rwa [← this]
  · exact fun h1 => ⟨s, h1, rfl⟩

theorem zcells5 {w w2 : World} (hb : Below ((w.drewN 1).alloc (.cells #[.string (ByteArray.mk #[]), .slice none 0 0, .int .i64 0, .int .i64 0, .slice none 0 0] 114)).heap.size ((w.drewN 1).alloc (.cells #[.string (ByteArray.mk #[]), .slice none 0 0, .int .i64 0, .int .i64 0, .slice none 0 0] 114)) w2) :
    (w2.cell? ⟨w.heap.size, 0, none⟩ = some (.string (ByteArray.mk #[])) ∧ w2.cell? ⟨w.heap.size, 1, none⟩ = some (.slice none 0 0) ∧ w2.cell? ⟨w.heap.size, 2, none⟩ = some (.int .i64 0) ∧ w2.cell? ⟨w.heap.size, 3, none⟩ = some (.int .i64 0) ∧ w2.cell? ⟨w.heap.size, 4, none⟩ = some (.slice none 0 0)) ∧ ∀ j, w2.frozen? ⟨w.heap.size, j, none⟩ = false := by
  refine ⟨cells5 (w := w.drewN 1) (t := 114) w2 hb, fun j => (hb.frozen (p := ⟨w.heap.size, j, none⟩) (by simp)).trans (World.frozen?_alloc_new (w.drewN 1) _ _ j)⟩

end Go.Proofs.YtgahpgmagfngfaaGreatDoor


/- The walk of inclusion.states: the search. -/
namespace Go.Proofs.YtgahpgmagfngfaaGreatDoor
open Go.RowKit
set_option linter.unusedVariables false

theorem wpList_gins {P : Program} {k e : TypeId} {κ : Type} {E : KeyE P k κ} {z : Value} {w : World} {b n : Nat} {f : κ → Value} {p : κ → Bool} [DecidableEq κ] {ops : Array Oper} {rest : List Oper} {o : Oper} {a : Act} {Q : Exit → Act → World → Prop} (hg : o.guard = none) (m x v : Operand) (t : TypeId) (hop : o.op = Op.insert t m x v)
    (ht : P.underlying t = some (.map k e))
    (hm : a.eval m = .map (some b)) (hown : OwnG E z w b n f p) (hn : n < maxLen) (s : κ) (y : Value) (hx : a.eval x = E.val s) (hv : a.eval v = y)
    (hK : ∀ w', OwnG E z w' b (n + 1) (updG f s y) (updG p s true) → w.grownBy w' (some b) → wpList P ops Q rest (a.put o.dst undef) w') : wpList P ops Q (o :: rest) a w := by
  obtain ⟨w', hrun, h1, h2⟩ := OwnG.upd hown ht hn s y
  refine wpList_plain hg fun K' hK' => ?_
  unfold Oper.wp
  simp [execOp, hop, hm, hx, hv, hrun, Result.andThen]
  exact hK' _ _ (hK w' h1 h2)

set_option maxHeartbeats 6400000 in
set_option maxRecDepth 100000 in
theorem istates_any (m : Nat) (N : Nat → Nat) (xs : List I6) (lv : Value) (g : DN) (gl gr : Value) (w : World) (hl : RdI w lv xs) (hgl : RdE encI w gl g.2.2.1) (hgr : RdE encI w gr g.2.2.2) (hm : m ≤ 3) (hN : ∀ k, N k ≤ 3) (hxs : ∀ x ∈ xs, VI m N x.2.2) (hg : VI m N g) :
    Calls Tryz.prog 22 #[lv, .agg #[.string (nmT g.1), gl, .string (nmT g.2.1), gr]] w (StaQ (xs.map (fun x => x.2.2)) (g.1, g.2.2.1) (g.2.1, g.2.2.2) w) := by
  have hn3 : g.2.2.1.length ≤ 3 := by
    have := nodup_bound (N g.1) g.2.2.1 hg.nl hg.l
    have := hN g.1
    omega
  have V0 := hid (show VS m g.2.2.1.length N (g.1, g.2.2.1) from ⟨hg.f, rfl, hg.l⟩)
  have V1 := hid (show VS m g.2.2.1.length N (g.2.1, g.2.2.2) from ⟨hg.t, hg.len.symm, hg.r⟩)
  have HL := hid (show ∀ d ∈ xs.map (fun x => x.2.2), VI m N d from fun d hd => by obtain ⟨x, hx, rfl⟩ := List.mem_map.1 hd; exact hxs x hx)
  have HM := hid hm
  have HN := hid hN
  have HN3 := hid hn3
  have HLR := hid hg.len
  have HA := hid (show ∀ a ∈ g.2.2.1, a < 10 from fun a ha => by have := hg.l a ha; have := hN g.1; omega)
  have HB := hid (show ∀ a ∈ g.2.2.2, a < 10 from fun a ha => by have := hg.r a ha; have := hN g.2.1; omega)
  obtain ⟨lo, lcap, rfl, hl9, hc⟩ := hl.split
  have HC := hid hc
  have HL9 := hid (show (xs.length : Int) ≤ 35184372088832 by omega)
  have l9 : (xs.length : Int) ≤ 35184372088832 := by omega
  obtain ⟨go_, gcap, hgo, -⟩ := hgl.split
  obtain ⟨ro, rcap, hro, -⟩ := hgr.split
  obtain ⟨gf, gt, gll, grr⟩ := g
  simp only at hgo hro hn3
  subst hgo hro
  have hb0 := below_alloc w (.cells #[.string (nmT gf), .slice go_ gll.length gcap, .string (nmT gt), .slice ro grr.length rcap] 39)
  have BX := hid (fun W h => cells4I (w := w) (a := .string (nmT gf)) (b := .slice go_ gll.length gcap) (c := .string (nmT gt)) (d := .slice ro grr.length rcap) (t := 39) W h)
  obtain ⟨w0, hw0⟩ : ∃ w0 : World, w.alloc (.cells #[.string (nmT gf), .slice go_ gll.length gcap, .string (nmT gt), .slice ro grr.length rcap] 39) = w0 := ⟨_, rfl⟩
  rw [hw0] at hb0 BX
  have hs0 : w0.heap.size = w.heap.size + 1 := by rw [← hw0]; simp
  have W0 := hid hw0
  have B0 := hid hb0
  have HS0 := hid hs0
  have GL0 := hid (hgl.below hb0)
  have GR0 := hid (hgr.below hb0)
  have FGL := hid (show ∀ j, w.heap.size ≤ j → FarV (.slice go_ gll.length gcap) (some j) from fun j hj => farV_blk hgl hj)
  -- the first state
  obtain ⟨x0, hx0⟩ : ∃ x0 : S5, ((.slice go_ gll.length gcap, -1, 0, .slice none 0 0, (gf, gll)) : S5) = x0 := ⟨_, rfl⟩
  have HX0 := hid hx0
  have LIT := hid (World.ownsRow_lit (base := w0.heap.size) (e := 114) (size := 5) w0 #[.string (nmT gf), .slice go_ gll.length gcap, .int .i64 (-1), .int .i64 0, .slice none 0 0] 1 (Nat.le_refl _) (by unfold maxLen; omega) rfl)
  have hb1 := below_alloc w0 (.cells #[.string (nmT gf), .slice go_ gll.length gcap, .int .i64 (-1), .int .i64 0, .slice none 0 0] 114)
  obtain ⟨w1, hw1⟩ : ∃ w1 : World, w0.alloc (.cells #[.string (nmT gf), .slice go_ gll.length gcap, .int .i64 (-1), .int .i64 0, .slice none 0 0] 114) = w1 := ⟨_, rfl⟩
  rw [hw1] at LIT hb1
  have W1 := hid hw1
  have HSW1 := hid (show w1.heap.size = w0.heap.size + 1 by rw [← hw1]; simp)
  have B1 := hid hb1
  have O1 := hid (show OutS w1 w0.heap.size (.slice (some ⟨w0.heap.size, 0, none⟩) 1 1) [x0] from by
    subst hx0
    refine ⟨LIT.out, fun x hx => ?_, fun x hx => ?_, fun x hx => ?_⟩ <;> rw [List.mem_singleton] at hx <;> subst hx
    · exact (GL0.out).below hb1
    · exact FGL.out w0.heap.size (by omega)
    · exact ⟨_, _, _, rfl⟩)
  clear hl hgl hgr hm hN hxs hg hc hb0 hw0 hs0 hb1 hw1 hx0 LIT hl9
  obtain ⟨y0, y1, y2, y3⟩ := BX.out w0 (Below.refl _ _)
  go_enter Tryz.func22, Tryz.ntmps22
  go_upto_region 1 with fail
  rw [W0.out]
  go_upto_region 2 with fail
  rw [W1.out]
  clear y0 y1 y2 y3
  obtain ⟨y0, y1, y2, y3⟩ := BX.out w1 B1.out
  have NM1 := hid (sname_any gt grr (.slice ro grr.length rcap) 0 0 (.slice none 0 0) w1 ((GR0.out).below B1.out) HB.out (by have := HLR.out; have := HN3.out; simp only at *; omega))
  go_wp2_with fail
  refine NM1.out.mono ?_
  rintro e w2 ⟨rfl, hb2⟩
  have B2 := hid hb2
  have O2 := hid (O1.out.below hb2)
  have HS1 := hid hb2.size
  clear y0 y1 y2 y3 hb2
  -- the map
  have hb3 := below_alloc w2 (.map #[] 0)
  have MP0 := hid (OwnSI.made w2)
  have O3 := hid (O2.out.below hb3)
  obtain ⟨w3, hw3⟩ : ∃ w3 : World, w2.alloc (.map #[] 0) = w3 := ⟨_, rfl⟩
  rw [hw3] at hb3 MP0 O3
  obtain ⟨mb, hmb⟩ : ∃ mb, w2.heap.size = mb := ⟨_, rfl⟩
  rw [hmb] at MP0
  have W3 := hid hw3
  have HMB := hid hmb
  have B3 := hid hb3
  clear hb3 hw3 hmb
  obtain ⟨v0, v1, v2, v3, v4⟩ : w3.cell? ⟨w0.heap.size, 0, none⟩ = some (.string (nmT gf)) ∧ w3.cell? ⟨w0.heap.size, 1, none⟩ = some (.slice go_ gll.length gcap) ∧ w3.cell? ⟨w0.heap.size, 2, none⟩ = some (.int .i64 (-1)) ∧ w3.cell? ⟨w0.heap.size, 3, none⟩ = some (.int .i64 0) ∧ w3.cell? ⟨w0.heap.size, 4, none⟩ = some (.slice none 0 0) := by
    have := O3.out.cells (i := 0) (x := x0) rfl
    rw [← HX0.out] at this
    simpa using this
  have B03 := hid (show Below w0.heap.size w0 w3 from B1.out.trans ((B2.out.trans (B3.out.mono B2.out.size)).mono B1.out.size))
  have NM3 := hid (sname_any gf gll (.slice go_ gll.length gcap) (-1) 0 (.slice none 0 0) w3 ((GL0.out).below B03.out) HA.out (by have := HN3.out; exact Nat.le_trans this (by decide)))
  have hmm := @run_makeMap Tryz.prog
  go_upto_region 3 with fail
  go_wp2_with (first | (rw [W3.out, HMB.out]) | fail)
  refine NM3.out.mono ?_
  rintro e w4 ⟨rfl, hb4⟩
  have B4 := hid hb4
  have MP4 := hid (OwnG.below MP0.out hb4)
  have O4 := hid (O3.out.below hb4)
  have B04 := hid (show Below w0.heap.size w0 w4 from B03.out.trans (hb4.mono B03.out.size))
  clear v0 v1 v2 v3 v4 hb4
  go_wp2_with (refine wpList_gins (E := strKeys (P := Tryz.prog) (k := 9) undStrI) (e := 3) rfl _ _ _ 116 rfl undMapSI rfl MP4.out (by unfold maxLen; omega) (nmK (gf, gll)) (.int .i64 0) rfl rfl ?_)
  intro w5 hm5 hg5
  have ST5 := hid (show StR (xs.map (fun x => x.2.2)) (gf, gll) w0.heap.size mb (.slice (some ⟨w0.heap.size, 0, none⟩) 1 1) [x0] (updG (fun _ => 0) (nmK (gf, gll)) 0) 0 0 w5 from by
    have e0 : sts [x0] = [(gf, gll)] := by rw [← HX0.out]; rfl
    have mlt : w0.heap.size < mb := by
      have := HMB.out; have := HS1.out; have := HSW1.out; omega
    have fm : FarV x0.1 (some mb) := by rw [← HX0.out]; exact FGL.out mb (by have := HS0.out; omega)
    refine ⟨O4.out.kept hg5 (.inr (by simp [Value.ownBlock]; omega)) (fun x hx => by rw [List.mem_singleton] at hx; subst hx; exact fm), ?_, by simp [Value.ownBlock]; omega, fun x hx => by rw [List.mem_singleton] at hx; subst hx; exact fm, by rw [e0]; rfl, by rw [e0]; simp, fun s hs => ?_, fun j d hj hk => by omega⟩
    · rw [e0]
      have := OwnSI.put (S := []) (G := fun _ => 0) (m := 0) (s := (gf, gll)) hm5
      simpa using this
    · rw [e0, List.mem_singleton] at hs; subst hs; exact .start)
  have BM := hid (show Below w0.heap.size w0 w5 ∧ w0.heap.size ≤ mb from by
    have h1 : w0.heap.size ≤ mb := by have := HMB.out; have := B1.out.size; have := HS1.out; omega
    exact ⟨B04.out.grown hg5 B04.out.size (fun g hg => by cases hg; exact h1), h1⟩)
  clear hm5 hg5
  go_upto_region 5 with fail
  go_loopw [7, 10] (fun o x wr => ∃ (i : Nat) (ms : List S5) (G : KS → Nat), i ≤ ms.length ∧ x = .int .i64 i ∧ Hid (StR (xs.map (fun x => x.2.2)) (gf, gll) w0.heap.size mb o ms G i 0 wr) ∧ Hid (Below w0.heap.size w0 wr)) (fun _ x _ => 1024 - (intOf x).toNat)
  case atStart => exact ⟨0, _, _, Nat.zero_le _, rfl, ST5, hid BM.out.1⟩
  case round =>
    obtain ⟨i, ms, G, hi, rfl, HS, HB9⟩ := hrel
    have MF := hid (HS.out.few (by have := HM.out; omega) (by have := HN3.out; omega) (fun k => by have := HN.out k; omega) HL.out V0.out)
    have i0 : (0 : Int) ≤ (i : Int) := by omega
    have m9 : (ms.length : Int) ≤ 1024 := by have := MF.out; omega
    obtain ⟨oo, oc, hoo⟩ := own_shape HS.out.out.own
    subst hoo
    by_cases hlt : i < ms.length
    · have hltI : (i : Int) < (ms.length : Int) := by omega
      clear hi
      have SI := HS.out
      have HLT := hid hlt
      go_upto_region 8 with fail
      go_loopw [7, 45] (fun o x wr => ∃ (k : Nat) (ms : List S5) (G : KS → Nat), k ≤ xs.length ∧ x = .int .i64 k ∧ Hid (StR (xs.map (fun x => x.2.2)) (gf, gll) w0.heap.size mb o ms G i k wr) ∧ Hid (Below w0.heap.size w0 wr) ∧ Hid (i < ms.length)) (fun _ x _ => xs.length - (intOf x).toNat)
      case atStart => exact ⟨0, _, _, Nat.zero_le _, rfl, HS, HB9, HLT⟩
      case round =>
        clear HS HB9 MF m9 hlt hltI HLT SI
        obtain ⟨k, ms, G, hk, rfl, HS, HB9, HLT⟩ := hrel
        have MF := hid (HS.out.few (by have := HM.out; omega) (by have := HN3.out; omega) (fun k => by have := HN.out k; omega) HL.out V0.out)
        have k0 : (0 : Int) ≤ (k : Int) := by omega
        have m9 : (ms.length : Int) ≤ 1024 := by have := MF.out; omega
        have hltI : (i : Int) < (ms.length : Int) := by have := HLT.out; omega
        obtain ⟨ob, oc, hoo⟩ := HS.out.out.shape (Nat.lt_of_le_of_lt (Nat.zero_le _) HLT.out)
        subst hoo
        by_cases hlk : k < xs.length
        · have hlkI : (k : Int) < (xs.length : Int) := by omega
          obtain ⟨xk, hxk⟩ := get_some hlk
          obtain ⟨⟨b, off, rfl, hce⟩, hrd⟩ := HC.out k xk hxk
          have BW := hid (show Below w.heap.size w wr from B0.out.trans (HB9.out.mono B0.out.size))
          obtain ⟨e0, e1, e2, e3⟩ := hce wr BW.out
          have RK := hid hrd
          have HK := hid hxk
          have DK := hid (show (xs.map (fun x => x.2.2))[k]? = some xk.2.2 by rw [List.getElem?_map, hxk]; rfl)
          have VK := hid (HL.out _ (List.mem_of_getElem? DK.out))
          clear hxk hce hrd
          obtain ⟨av, bv, df, dt, dl, dr⟩ := xk
          obtain ⟨ao, acap, hav, -⟩ := (RK.out _ (Below.refl _ _)).1.split
          obtain ⟨bo, bcap, hbv, -⟩ := (RK.out _ (Below.refl _ _)).2.split
          simp only at hav hbv e0 e1 e2 e3
          subst hav hbv
          have hb9 := below_alloc wr (.cells #[.string (nmT df), .slice ao dl.length acap, .string (nmT dt), .slice bo dr.length bcap] 39)
          have CX := hid (fun W h => cells4I (w := wr) (a := .string (nmT df)) (b := .slice ao dl.length acap) (c := .string (nmT dt)) (d := .slice bo dr.length bcap) (t := 39) W h)
          obtain ⟨w9, hw9⟩ : ∃ w9 : World, wr.alloc (.cells #[.string (nmT df), .slice ao dl.length acap, .string (nmT dt), .slice bo dr.length bcap] 39) = w9 := ⟨_, rfl⟩
          rw [hw9] at hb9 CX
          have W9 := hid hw9
          have B9 := hid hb9
          have S9 := hid (HS.out.below hb9)
          obtain ⟨bx, hbx⟩ : ∃ bx, wr.heap.size = bx := ⟨_, rfl⟩
          have HBX := hid hbx
          rw [hbx] at CX
          obtain ⟨xi, hxi⟩ := get_some HLT.out
          have XI := hid hxi
          have VS9 := hid (VS.rch HL.out V0.out (HS.out.rch xi.2.2.2.2 (List.mem_map.2 ⟨xi, List.mem_of_getElem? hxi, rfl⟩)))
          have CI := hid (fun (W : World) (h : Below w9.heap.size w9 W) => (S9.out.out.below h).cells XI.out)
          have RI := hid (fun (W : World) (h : Below w9.heap.size w9 W) => (S9.out.out.below h).rd xi (List.mem_of_getElem? XI.out))
          obtain ⟨po9, pn9, pc9, hpo9⟩ := S9.out.out.pos xi (List.mem_of_getElem? hxi)
          obtain ⟨so, scap, hso, -⟩ := (RI.out w9 (Below.refl _ _)).split
          obtain ⟨sv, sb, sj, sp, s⟩ := xi
          simp only at hpo9 hso
          subst hpo9 hso
          have RD9 := hid (fun (W : World) (h : Below w9.heap.size w9 W) => RK.out W (BW.out.trans ((hb9.trans (h.mono hb9.size)).mono BW.out.size)))
          have HDL := hid (show dl.length ≤ 32 from by have := nodup_bound (N df) dl VK.out.nl VK.out.l; have := HN.out df; omega)
          have HDF := hid (show df < 100 from by have h1 : df < m := VK.out.f; have h2 := HM.out; omega)
          have HDT := hid (show dt < 100 from by have h1 : dt < m := VK.out.t; have h2 := HM.out; omega)
          have HSL := hid (show s.2.length ≤ 32 from by have h1 : s.2.length = gll.length := VS9.out.len; have h2 := HN3.out; omega)
          have HST := hid (show s.1 < 100 from by have h1 : s.1 < m := VS9.out.t; have h2 := HM.out; omega)
          have FOL := hid (fun (W : World) (h : Below w9.heap.size w9 W) => (ifollow_any (df, dt, dl, dr) s k (.slice so s.2.length scap) sb sj (.slice po9 pn9 pc9) (.slice ao dl.length acap) (.slice bo dr.length bcap) W (RI.out W h) (RD9.out W h).1 (RD9.out W h).2 VK.out.len HSL.out HDL.out HDF.out HST.out ⟨_, _, _, rfl⟩).mono fun e w' h => h.uni)
          have ZA := hid (show Below w9.heap.size w9 ((w9.drewN 1).alloc (.cells #[.string (ByteArray.mk #[]), .slice none 0 0, .int .i64 0, .int .i64 0, .slice none 0 0] 114)) from (below_drewN w9.heap.size w9 1).alloc (by simp) _)
          have ZLT := hid (show w9.heap.size < ((w9.drewN 1).alloc (.cells #[.string (ByteArray.mk #[]), .slice none 0 0, .int .i64 0, .int .i64 0, .slice none 0 0] 114)).heap.size from by simp)
          clear hb9 hw9 hbx hxi
          go_upto_region 10 with fail
          rw [W9.out, HBX.out]
          clear e0 e1 e2 e3
          obtain ⟨g0, g1, g2, g3⟩ := CX.out w9 (Below.refl _ _)
          obtain ⟨f0, f1, f2, f3, f4⟩ := CI.out w9 (Below.refl _ _)
          have ka := fun o => CI.out _ (below_alloc w9 o)
          have ka0 := fun o => (ka o).1
          have ka1 := fun o => (ka o).2.1
          have ka2 := fun o => (ka o).2.2.1
          have ka3 := fun o => (ka o).2.2.2.1
          have ka4 := fun o => (ka o).2.2.2.2
          have kb := fun o => CX.out _ (below_alloc w9 o)
          have kb0 := fun o => (kb o).1
          have kb1 := fun o => (kb o).2.1
          have kb2 := fun o => (kb o).2.2.1
          have kb3 := fun o => (kb o).2.2.2
          clear ka kb
          go_cut [13, 14] (fun s13 s14 wx => ∃ (q : Nat) (nm : ByteArray) (ao' : Option Addr) (an ac : Nat) (x : Int) (po : Option Addr) (pn pc : Nat), s13 = .pointer (some ⟨q, 0, none⟩) ∧ s14 = .bool (appS (df, dt, dl, dr) s) ∧ FolB (df, dt, dl, dr) s (k : Int) w9 q nm (.slice ao' an ac) x (.slice po pn pc) wx)
          case first =>
            go_region_law (first
              | (go_simp; go_at_call 51; refine (FOL.out _ (below_drewN w9.heap.size w9 1)).mono ?_; rintro e w2 ⟨nm2, ao2, an2, ac2, x2, po2, pn2, pc2, rfl, hok, hb2⟩; have BX := hid (FolB.alloc (pv := .slice po2 pn2 pc2) (below_drewN w9.heap.size w9 1) hb2 hok); clear hok hb2)
              | (go_simp; go_at_call 51; refine (FOL.out _ ZA.out).mono ?_; rintro e w2 ⟨nm2, ao2, an2, ac2, x2, po2, pn2, pc2, rfl, hok, hb2⟩; obtain ⟨⟨z0, z1, z2, z3, z4⟩, zf⟩ := zcells5 hb2; have zf0 := zf 0; have zf1 := zf 1; have zf2 := zf 2; have zf3 := zf 3; have zf4 := zf 4; have BX := hid (FolB.store (pv := .slice po2 pn2 pc2) ZA.out hb2 (Nat.le_refl _) ZLT.out z0 z1 z2 z3 z4 zf2 hok); clear hok hb2 zf))
            all_goals (go_wp2_with fail; go_meet; exact ⟨_, _, _, _, _, _, _, _, _, rfl, rfl, BX.out⟩)
          case rest =>
            clear f0 f1 f2 f3 f4 ka0 ka1 ka2 ka3 ka4 g0 g1 g2 g3 kb0 kb1 kb2 kb3
            obtain ⟨q, nm, ao', an, ac, x, po, pn, pc, rfl, rfl, hF⟩ := hcut
            have HF := hid hF
            have SC := hid (S9.out.below hF.below)
            have BWC := hid (show Below wr.heap.size wr wc from B9.out.trans (hF.below.mono B9.out.size))
            by_cases hap : appS (df, dt, dl, dr) s = true
            · obtain ⟨rfl, rfl, hrd, hfar⟩ := hF.ok hap
              have HAP := hid hap
              have RDN := hid hrd
              have FAR := hid hfar
              have VSN := hid (VS.next VK.out VS9.out hap)
              have q0 := hF.c0
              have q1 := hF.c1
              have q2 := hF.c2
              have q3 := hF.c3
              have q4 := hF.c4
              have SN32 := hid (show (s.2.map (goS (df, dt, dl, dr))).length ≤ 32 by rw [List.length_map]; exact HSL.out)
              have SN10 := hid (show ∀ a ∈ s.2.map (goS (df, dt, dl, dr)), a < 10 from fun a ha => Nat.lt_of_lt_of_le (VSN.out.a a ha) (Nat.le_trans (HN.out _) (by decide)))
              have NM5 := hid (sname_any dt (s.2.map (goS (df, dt, dl, dr))) (.slice ao' an ac) 0 (k : Int) (.slice po pn pc) wc hrd SN10.out SN32.out)
              rw [hap]
              clear hap hrd hfar hF
              go_wp2_with fail
              refine NM5.out.mono ?_
              rintro e w2 ⟨rfl, hb2⟩
              have KN := hid (SC.out.known (by have := HM.out; omega) (by have := HN3.out; omega) (fun k => by have := HN.out k; omega) HL.out V0.out VSN.out)
              have MP2 := hid (OwnG.below SC.out.map hb2)
              have BR2 := hid (show Below wr.heap.size wr w2 from BWC.out.trans (hb2.mono BWC.out.size))
              have HB2 := hid hb2
              clear q0 q1 q2 q3 q4 hb2
              by_cases hin : toSN (df, dt, dl, dr) s ∈ sts ms
              · have HK9 := hid (KN.out.2 hin)
                have HIN := hid hin
                clear hin
                go_wp2_with (at_lookup; refine wpList_glook_ok (E := strKeys (P := Tryz.prog) (k := 9) undStrI) (z := .int .i64 0) (e := 3) rfl _ _ 116 rfl undMapSI (Tryz.zeroValue3 _) rfl MP2.out (nmK (toSN (df, dt, dl, dr) s)) rfl ?_; rw [HK9.out])
                go_roundw
                case rel => exact ⟨k + 1, ms, G, by omega, by go_num, hid (HS.out.skip BR2.out XI.out DK.out (fun _ => HIN.out)), hid (HB9.out.trans (BR2.out.mono HB9.out.size)), HLT⟩
                case measure => simp [intOf]; omega
              · have HK9 := hid (show hasK ((sts ms).map nmK) (nmK (toSN (df, dt, dl, dr) s)) = false from by
                  cases h : hasK ((sts ms).map nmK) (nmK (toSN (df, dt, dl, dr) s)) with
                  | false => rfl
                  | true => exact absurd (KN.out.1 h) hin)
                have HIN := hid hin
                clear hin
                have m20 : ((ms.length : Int) == 20000) = false := by rw [beq_eq_false_iff_ne]; omega
                have QLT := hid (show q < wc.heap.size from World.block_lt_of_cell? _ _ HF.out.c0)
                have p0 := ((HB2.out.cell (p := ⟨q, 0, none⟩) QLT.out)).trans HF.out.c0
                have p1 := ((HB2.out.cell (p := ⟨q, 1, none⟩) QLT.out)).trans HF.out.c1
                have p2 := ((HB2.out.cell (p := ⟨q, 2, none⟩) QLT.out)).trans HF.out.c2
                have p3 := ((HB2.out.cell (p := ⟨q, 3, none⟩) QLT.out)).trans HF.out.c3
                have p4 := ((HB2.out.cell (p := ⟨q, 4, none⟩) QLT.out)).trans HF.out.c4
                have pf := ((HB2.out.frozen (p := ⟨q, 2, none⟩) QLT.out)).trans HF.out.f2
                -- the state with its before
                obtain ⟨w3', hw3'⟩ : ∃ w3' : World, w2.setCell ⟨q, 2, none⟩ (.int .i64 (i : Int)) = w3' := ⟨_, rfl⟩
                have W3' := hid hw3'
                have r0 : w3'.cell? ⟨q, 0, none⟩ = some (.string (nmT dt)) := by rw [← hw3']; exact (World.cell?_setCell_other _ _ _ _ (by simp)).trans p0
                have r1 : w3'.cell? ⟨q, 1, none⟩ = some (.slice ao' an ac) := by rw [← hw3']; exact (World.cell?_setCell_other _ _ _ _ (by simp)).trans p1
                have r2 : w3'.cell? ⟨q, 2, none⟩ = some (.int .i64 (i : Int)) := by rw [← hw3']; exact World.cell?_setCell_same _ _ _ p2
                have r3 : w3'.cell? ⟨q, 3, none⟩ = some (.int .i64 (k : Int)) := by rw [← hw3']; exact (World.cell?_setCell_other _ _ _ _ (by simp)).trans p3
                have r4 : w3'.cell? ⟨q, 4, none⟩ = some (.slice po pn pc) := by rw [← hw3']; exact (World.cell?_setCell_other _ _ _ _ (by simp)).trans p4
                have RD3 := hid (show RdE encI w3' (.slice ao' an ac) (s.2.map (goS (df, dt, dl, dr))) from by rw [← hw3']; exact RdE.setFar (p := ⟨q, 2, none⟩) (RDN.out.below HB2.out) (FAR.out q (.inr rfl)))
                have B93 := hid (show Below wr.heap.size wr w3' from by
                  rw [← hw3']
                  exact BR2.out.setCell (p := ⟨q, 2, none⟩) (by have := HF.out.lo; have := B9.out.size; show wr.heap.size ≤ q; omega) _)
                have Q3 := hid (show q < w3'.heap.size from World.block_lt_of_cell? _ _ r0)
                have QF := hid (show w9.heap.size ≤ q from HF.out.lo)
                clear hw3'
                have NM6 := hid (sname_any dt (s.2.map (goS (df, dt, dl, dr))) (.slice ao' an ac) (i : Int) (k : Int) (.slice po pn pc) w3' RD3.out SN10.out SN32.out)
                go_upto_region 17 with (at_lookup; refine wpList_glook_ok (E := strKeys (P := Tryz.prog) (k := 9) undStrI) (z := .int .i64 0) (e := 3) rfl _ _ 116 rfl undMapSI (Tryz.zeroValue3 _) rfl MP2.out (nmK (toSN (df, dt, dl, dr) s)) rfl ?_; rw [HK9.out])
                rw [W3'.out]
                clear p0 p1 p2 p3 p4 pf
                go_wp2_with fail
                refine NM6.out.mono ?_
                rintro e w4' ⟨rfl, hb4⟩
                have B94 := hid (show Below wr.heap.size wr w4' from B93.out.trans (hb4.mono B93.out.size))
                have RD4 := hid (RD3.out.below hb4)
                have MP4' := hid (OwnG.below (w := wr) HS.out.map B94.out)
                have Q4 := hid (show q < w4'.heap.size from Nat.lt_of_lt_of_le Q3.out hb4.size)
                have s0 := (hb4.cell (p := ⟨q, 0, none⟩) Q3.out).trans r0
                have s1 := (hb4.cell (p := ⟨q, 1, none⟩) Q3.out).trans r1
                have s2 := (hb4.cell (p := ⟨q, 2, none⟩) Q3.out).trans r2
                have s3 := (hb4.cell (p := ⟨q, 3, none⟩) Q3.out).trans r3
                have s4 := (hb4.cell (p := ⟨q, 4, none⟩) Q3.out).trans r4
                clear r0 r1 r2 r3 r4 hb4
                have MLT := hid (show mb < w9.heap.size from Nat.lt_of_lt_of_le (OwnG.lt HS.out.map) B9.out.size)
                have QM := hid (show some q ≠ some mb from fun e => by have h1 := MLT.out; have h2 := QF.out; have := Option.some.inj e; omega)
                go_wp2_with (at_mapUpdate; refine wpList_gput (E := strKeys (P := Tryz.prog) (k := 9) undStrI) (e := 3) rfl _ _ _ 116 rfl undMapSI rfl MP4'.out (by have := MF.out; unfold maxLen; omega) (nmK (toSN (df, dt, dl, dr) s)) (.int .i64 (ms.length : Int)) rfl rfl ?_)
                intro w5' hm5 hg5
                rw [show ms.map (nmK ∘ fun x : S5 => x.2.2.2.2) = (sts ms).map nmK by rw [List.map_map]] at hm5
                have MP5 := hid (OwnSI.put (S := sts ms) hm5)
                have GG5 := hid hg5
                have t0 := (hg5.cell_far ⟨q, 0, none⟩ Q4.out QM.out).trans s0
                have t1 := (hg5.cell_far ⟨q, 1, none⟩ Q4.out QM.out).trans s1
                have t2 := (hg5.cell_far ⟨q, 2, none⟩ Q4.out QM.out).trans s2
                have t3 := (hg5.cell_far ⟨q, 3, none⟩ Q4.out QM.out).trans s3
                have t4 := (hg5.cell_far ⟨q, 4, none⟩ Q4.out QM.out).trans s4
                clear hm5 hg5 s0 s1 s2 s3 s4
                obtain ⟨Y, hY⟩ : ∃ Y : S5, ((.slice ao' an ac, (i : Int), (k : Int), .slice po pn pc, toSN (df, dt, dl, dr) s) : S5) = Y := ⟨_, rfl⟩
                have HY := hid hY
                have hb6 := below_alloc w5' (.cells #[.string (nmT dt), .slice ao' an ac, .int .i64 (i : Int), .int .i64 (k : Int), .slice po pn pc] 114)
                have CN := hid (show ∀ j u, (cSt Y)[j]? = some u → (w5'.alloc (.cells #[.string (nmT dt), .slice ao' an ac, .int .i64 (i : Int), .int .i64 (k : Int), .slice po pn pc] 114)).cell? (Addr.add ⟨w5'.heap.size, 0, none⟩ j) = some u from by
                  rw [← hY]
                  exact cells_newSt w5' ((.slice ao' an ac, (i : Int), (k : Int), .slice po pn pc, toSN (df, dt, dl, dr) s) : S5) (t := 114))
                have ONE := hid (show ∀ u ∈ cSt Y, u.oneCell' = true from by rw [← hY]; exact cSt_one rfl rfl)
                have O5 := hid (show OutS w5' w0.heap.size (.slice (some ⟨ob, 0, none⟩) ms.length oc) ms from (HS.out.out.below B94.out).kept GG5.out (.inr HS.out.ne) HS.out.farm)
                have O6 := hid (O5.out.below hb6)
                have RD6 := hid (show RdE encI (w5'.alloc (.cells #[.string (nmT dt), .slice ao' an ac, .int .i64 (i : Int), .int .i64 (k : Int), .slice po pn pc] 114)) (.slice ao' an ac) (s.2.map (goS (df, dt, dl, dr))) from (RdE.grownI RD4.out GG5.out (FAR.out mb (.inl MLT.out))).below hb6)
                have HB6 := hid hb6
                have BS6 := hid (show w0.heap.size ≤ (w5'.alloc (.cells #[.string (nmT dt), .slice ao' an ac, .int .i64 (i : Int), .int .i64 (k : Int), .slice po pn pc] 114)).heap.size from Nat.le_trans (Nat.le_trans (Nat.le_trans HB9.out.size B94.out.size) GG5.out.size) hb6.size)
                clear hY hb6
                go_wp2_with (at_builtin; refine wpList_pushW rfl _ _ 75 rfl w0.heap.size 114 (.agg #[.string (ByteArray.mk #[]), .slice none 0 0, .int .i64 0, .int .i64 0, .slice none 0 0]) 5 80 undSts infoSts rfl (by decide) (by decide) cSt cSt_length (.slice (some ⟨ob, 0, none⟩) ms.length oc) ms rfl O6.out.own ⟨w5'.heap.size, 0, none⟩ Y ONE.out rfl CN.out (by have := MF.out; omega) BS6.out ?_)
                intro v7 w7 ho7 hg7 hv7
                have FIN := hid (HS.out.push (y := Y) XI.out DK.out HAP.out HIN.out (by rw [← HY.out]) B94.out GG5.out MP5.out HB6.out (by simpa using ho7) hg7 (by simpa using hv7) (by rw [← HY.out]; exact RD6.out) (by rw [← HY.out]; exact FAR.out ob (.inl (by have := (HS.out.out.own.lt ob rfl).2; have := B9.out.size; omega))) (by rw [← HY.out]; exact FAR.out mb (.inl MLT.out)) (by rw [← HY.out]; exact ⟨_, _, _, rfl⟩))
                have BF := hid (show Below w0.heap.size w0 w7 from by
                  have h5 := (HB9.out.trans (B94.out.mono HB9.out.size)).grown GG5.out (Nat.le_trans HB9.out.size B94.out.size) (fun g hg => by cases hg; exact BM.out.2)
                  exact Below.grown (h5.trans (HB6.out.mono h5.size)) hg7 BS6.out (fun g hg => (HS.out.out.own.lt g hg).1))
                clear ho7 hg7 hv7 t0 t1 t2 t3 t4
                go_wp2_with fail
                go_roundw
                case rel => exact ⟨k + 1, ms ++ [Y], _, by omega, by go_num, FIN, BF, hid (by rw [List.length_append]; have := HLT.out; omega)⟩
                case measure => simp [intOf]; omega
            · have hap : appS (df, dt, dl, dr) s = false := by simpa using hap
              have HAP := hid hap
              rw [hap]
              clear hap hF
              go_wp2_with fail
              go_roundw
              case rel => exact ⟨k + 1, ms, G, by omega, by go_num, hid (HS.out.skip BWC.out XI.out DK.out (fun h => by simp only at h; rw [HAP.out] at h; cases h)), hid (HB9.out.trans (BWC.out.mono HB9.out.size)), HLT⟩
              case measure => simp [intOf]; omega
        · have hlkI : ¬ (k : Int) < (xs.length : Int) := by omega
          have i1 : i + 1 ≤ ms.length := HLT.out
          have i2 : i < 1024 := by have := MF.out; omega
          have FIN := hid (HS.out.outer (by rw [List.length_map]; omega))
          go_wp2_with fail
          go_roundw
          case rel => exact ⟨i + 1, ms, G, i1, by go_num, FIN, HB9⟩
          case measure => simp [intOf]; omega
    · have hltI : ¬ (i : Int) < (ms.length : Int) := by omega
      have KN := hid (HS.out.known (by have := HM.out; omega) (by have := HN3.out; omega) (fun k => by have := HN.out k; omega) HL.out V0.out V1.out)
      have DN9 := hid (HS.out.done (by omega) (s1 := (gt, grr)))
      have BF := hid (show Below w.heap.size w wr from B0.out.trans (HB9.out.mono B0.out.size))
      by_cases hin : (gt, grr) ∈ sts ms
      · have HK9 := hid (KN.out.2 hin)
        have HR := hid (HS.out.rch _ hin)
        clear hin
        go_wp2_with (at_lookup; refine wpList_glook_ok (E := strKeys (P := Tryz.prog) (k := 9) undStrI) (z := .int .i64 0) (e := 3) rfl _ _ 116 rfl undMapSI (Tryz.zeroValue3 _) rfl HS.out.map (nmK (gt, grr)) rfl ?_; rw [HK9.out])
        exact bodyPost_ret (v := .tuple #[.slice oo ms.length oc, .int .i64 (G (nmK (gt, grr)) : Int), .int .i64 0]) (by simp [results, Tryz.results22, go_sem]) rfl ⟨_, _, rfl, fun _ => HR.out, fun _ => by omega, BF.out⟩
      · have HK9 := hid (show hasK ((sts ms).map nmK) (nmK (gt, grr)) = false from by
          cases h : hasK ((sts ms).map nmK) (nmK (gt, grr)) with
          | false => rfl
          | true => exact absurd (KN.out.1 h) hin)
        have HIN := hid hin
        clear hin
        go_wp2_with (at_lookup; refine wpList_glook_ok (E := strKeys (P := Tryz.prog) (k := 9) undStrI) (z := .int .i64 0) (e := 3) rfl _ _ 116 rfl undMapSI (Tryz.zeroValue3 _) rfl HS.out.map (nmK (gt, grr)) rfl ?_; rw [HK9.out])
        exact bodyPost_ret (v := .tuple #[.slice oo ms.length oc, .int .i64 (-1), .int .i64 0]) (by simp [results, Tryz.results22, go_sem]) rfl ⟨_, _, rfl, fun h => by omega, fun h => absurd (DN9.out h) HIN.out, BF.out⟩

end Go.Proofs.YtgahpgmagfngfaaGreatDoor


/- The walks of inclusion.all and Implies. -/
namespace Go.Proofs.YtgahpgmagfngfaaGreatDoor
open Go.RowKit
set_option linter.unusedVariables false

set_option maxHeartbeats 3200000 in
set_option maxRecDepth 100000 in
theorem ialls_any (ds : List D3) (v : Value) (xs : List I6) (sv : Value) (d : DN) (lv rv : Value) (w : World) (hv : RdDb w v ds) (hg : GoodD ds) (hx : RdI w sv xs) (hxs : ∀ x ∈ xs, VI ds.length (nD ds) x.2.2) (hd : VI ds.length (nD ds) d) (hl : RdE encI w lv d.2.2.1) (hr : RdE encI w rv d.2.2.2) :
    Calls Tryz.prog 21 #[.agg #[v], sv, .agg #[.string (nmT d.1), lv, .string (nmT d.2.1), rv]] w fun e w' => e = .returned (.int .i64 0) ∧ Below w.heap.size w w' := by
  have hb0 := (below_alloc w (.cells #[v] 29)).trans ((below_alloc (w.alloc (.cells #[v] 29)) (.cells #[.string (nmT d.1), lv, .string (nmT d.2.1), rv] 39)).mono (by simp))
  have BX := hid (boxDI w v (.string (nmT d.1)) lv (.string (nmT d.2.1)) rv)
  obtain ⟨w0, hw0⟩ : ∃ w0 : World, (w.alloc (.cells #[v] 29)).alloc (.cells #[.string (nmT d.1), lv, .string (nmT d.2.1), rv] 39) = w0 := ⟨_, rfl⟩
  rw [hw0] at hb0 BX
  have B0 := hid hb0
  have W0 := hid hw0
  have hs0 := hb0.size
  have V0 := hid (hv.below hb0)
  have CK := hid (icheck_any ds v w0 V0.out hg)
  have FI := hid (fun (W : World) (h : Below w0.heap.size w0 W) => ifits_any ds v d lv rv W (V0.out.below h) hg hd ((hl.below hb0).below h) ((hr.below hb0).below h))
  have FX := hid (fun (x : I6) (hm : x ∈ xs) (W : World) (h : Below w0.heap.size w0 W) (h1 : RdE encI W x.1 x.2.2.2.2.1) (h2 : RdE encI W x.2.1 x.2.2.2.2.2) => ifits_any ds v x.2.2 x.1 x.2.1 W (V0.out.below h) hg (hxs x hm) h1 h2)
  obtain ⟨ao, cap, rfl, -⟩ := V0.out.split
  obtain ⟨lo, lcap, rfl, -⟩ := hl.split
  obtain ⟨ro, rcap, rfl, -⟩ := hr.split
  obtain ⟨so, scap, rfl, hl9, hc⟩ := hx.split
  have HC := hid hc
  have l9 : (xs.length : Int) ≤ 35184372088832 := by omega
  obtain ⟨x0, x1, x2, x3, x4⟩ := BX.out _ (Below.refl _ _)
  clear hv hb0 hw0 hg hd hl hr hx hxs hc hl9
  go_enter Tryz.func21, Tryz.ntmps21
  go_wp2_with fail
  rw [W0.out]
  go_wp2_with fail
  refine CK.out.mono ?_
  rintro e w1 ⟨rfl, hb1⟩
  have D1 := hid hb1
  clear x0 x1 x2 x3 x4 hb1
  go_upto_region 5 with fail
  go_loopw [18] (fun x wr => ∃ k : Nat, k ≤ xs.length ∧ x = .int .i64 k ∧ Hid (Below w0.heap.size w0 wr)) (fun x _ => xs.length - (intOf x).toNat)
  case atStart => exact ⟨0, Nat.zero_le _, rfl, D1⟩
  case round =>
    obtain ⟨k, hk, rfl, HB⟩ := hrel
    have k0 : (0 : Int) ≤ (k : Int) := by omega
    by_cases hlk : k < xs.length
    · have hlkI : (k : Int) < (xs.length : Int) := by omega
      obtain ⟨xk, hxk⟩ := get_some hlk
      obtain ⟨⟨b, off, rfl, hce⟩, hrd⟩ := HC.out k xk hxk
      have BW := hid (show Below w.heap.size w wr from B0.out.trans (HB.out.mono hs0))
      obtain ⟨e0, e1, e2, e3⟩ := hce wr BW.out
      have RK := hid hrd
      have F1 := hid (FX.out xk (List.mem_of_getElem? hxk))
      clear hxk hce hrd
      obtain ⟨av, bv, df, dt, dl, dr⟩ := xk
      obtain ⟨ao', acap, hav, -⟩ := (RK.out _ (Below.refl _ _)).1.split
      obtain ⟨bo, bcap, hbv, -⟩ := (RK.out _ (Below.refl _ _)).2.split
      simp only at hav hbv e0 e1 e2 e3
      subst hav hbv
      have hb9 := below_alloc wr (.cells #[.string (nmT df), .slice ao' dl.length acap, .string (nmT dt), .slice bo dr.length bcap] 39)
      have CX := hid (fun W h => cells4I (w := wr) (a := .string (nmT df)) (b := .slice ao' dl.length acap) (c := .string (nmT dt)) (d := .slice bo dr.length bcap) (t := 39) W h)
      obtain ⟨w9, hw9⟩ : ∃ w9 : World, wr.alloc (.cells #[.string (nmT df), .slice ao' dl.length acap, .string (nmT dt), .slice bo dr.length bcap] 39) = w9 := ⟨_, rfl⟩
      rw [hw9] at hb9 CX
      have W9 := hid hw9
      have B9 := hid (HB.out.trans (hb9.mono HB.out.size))
      have RW := hid (RK.out w9 (BW.out.trans (hb9.mono BW.out.size)))
      have F2 := hid (F1.out w9 B9.out RW.out.1 RW.out.2)
      obtain ⟨bx, hbx⟩ : ∃ bx, wr.heap.size = bx := ⟨_, rfl⟩
      have HBX := hid hbx
      rw [hbx] at CX
      clear hb9 hw9 hbx
      go_upto_region 7 with fail
      rw [W9.out, HBX.out]
      clear e0 e1 e2 e3
      obtain ⟨g0, g1, g2, g3⟩ := CX.out w9 (Below.refl _ _)
      obtain ⟨x0, x1, x2, x3, x4⟩ := BX.out w9 B9.out
      go_wp2_with fail
      refine F2.out.mono ?_
      rintro e w2 ⟨rfl, hb2⟩
      have D2 := hid (B9.out.trans (hb2.mono B9.out.size))
      clear x0 x1 x2 x3 x4 g0 g1 g2 g3 hb2
      go_wp2_with fail
      go_roundw
      case rel => exact ⟨k + 1, by omega, by go_num, D2⟩
      case measure => simp [intOf]; omega
    · have hlkI : ¬ (k : Int) < (xs.length : Int) := by omega
      obtain ⟨x0, x1, x2, x3, x4⟩ := BX.out wr HB.out
      go_wp2_with fail
      refine (FI.out _ HB.out).mono ?_
      rintro e w2 ⟨rfl, hb2⟩
      have D2 := hid (B0.out.trans ((HB.out.trans (hb2.mono HB.out.size)).mono hs0))
      clear x0 x1 x2 x3 x4 hb2
      go_wp2_with fail
      go_ret
      exact ⟨rfl, D2.out⟩

/-- What Implies gives. -/
def ImpQ (L : List DN) (s0 s1 : SN) (w : World) (e : Ending) (w' : World) : Prop :=
  ∃ b : Bool, e = .returned (.tuple #[.bool b, .int .i64 0]) ∧ (b = true → Rch L s0 s1) ∧ ((∃ d ∈ L, appS d s0 = true ∧ toSN d s0 = s1) → b = true) ∧ Below w.heap.size w w'
set_option maxHeartbeats 3200000 in
set_option maxRecDepth 100000 in
theorem iimplies_any (ds : List D3) (v : Value) (xs : List I6) (sv : Value) (d : DN) (lv rv : Value) (w : World) (hv : RdDb w v ds) (hg : GoodD ds) (hx : RdI w sv xs) (hxs : ∀ x ∈ xs, VI ds.length (nD ds) x.2.2) (hd : VI ds.length (nD ds) d) (hl : RdE encI w lv d.2.2.1) (hr : RdE encI w rv d.2.2.2) :
    Calls Tryz.prog 9 #[.agg #[v], sv, .agg #[.string (nmT d.1), lv, .string (nmT d.2.1), rv]] w (ImpQ (xs.map (fun x => x.2.2)) (d.1, d.2.2.1) (d.2.1, d.2.2.2) w) := by
  have hb0 := (below_alloc w (.cells #[v] 29)).trans ((below_alloc (w.alloc (.cells #[v] 29)) (.cells #[.string (nmT d.1), lv, .string (nmT d.2.1), rv] 39)).mono (by simp))
  have BX := hid (boxDI w v (.string (nmT d.1)) lv (.string (nmT d.2.1)) rv)
  obtain ⟨w0, hw0⟩ : ∃ w0 : World, (w.alloc (.cells #[v] 29)).alloc (.cells #[.string (nmT d.1), lv, .string (nmT d.2.1), rv] 39) = w0 := ⟨_, rfl⟩
  rw [hw0] at hb0 BX
  have B0 := hid hb0
  have W0 := hid hw0
  have hs0 := hb0.size
  have V0 := hid (hv.below hb0)
  have CK := hid (ialls_any ds v xs sv d lv rv w0 V0.out hg (hx.below hb0) hxs hd (hl.below hb0) (hr.below hb0))
  have ST := hid (fun (W : World) (h : Below w0.heap.size w0 W) => istates_any ds.length (nD ds) xs sv d lv rv W ((hx.below hb0).below h) ((hl.below hb0).below h) ((hr.below hb0).below h) hg.few (fun k => hg.db.n3 k) hxs hd)
  obtain ⟨ao, cap, rfl, -⟩ := V0.out.split
  obtain ⟨lo, lcap, rfl, -⟩ := hl.split
  obtain ⟨ro, rcap, rfl, -⟩ := hr.split
  obtain ⟨so, scap, rfl, -⟩ := hx.split
  obtain ⟨x0, x1, x2, x3, x4⟩ := BX.out _ (Below.refl _ _)
  clear hv hb0 hw0 hg hd hl hr hx hxs
  go_enter Tryz.func9, Tryz.ntmps9
  go_wp2_with fail
  rw [W0.out]
  go_wp2_with fail
  refine CK.out.mono ?_
  rintro e w1 ⟨rfl, hb1⟩
  have D1 := hid hb1
  clear x0 x1 x2 x3 x4 hb1
  obtain ⟨x0, x1, x2, x3, x4⟩ := BX.out _ D1.out
  go_wp2_with fail
  refine (ST.out _ D1.out).mono ?_
  rintro e w2 ⟨vo, at_, rfl, h1, h2, hb2⟩
  have D2 := hid (B0.out.trans ((D1.out.trans (hb2.mono D1.out.size)).mono hs0))
  have H1 := hid h1
  have H2 := hid h2
  clear x0 x1 x2 x3 x4 hb2 h1 h2
  go_wp2_with fail
  go_ret2
  exact ⟨decide (0 ≤ at_), by simp, fun h => H1.out (of_decide_eq_true h), fun h => decide_eq_true (H2.out h), D2.out⟩

end Go.Proofs.YtgahpgmagfngfaaGreatDoor

