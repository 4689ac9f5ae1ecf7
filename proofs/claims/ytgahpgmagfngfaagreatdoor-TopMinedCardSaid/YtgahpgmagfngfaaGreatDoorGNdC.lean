/- Texts that belong together, in one file. -/
import Derived.Test.YtgahpgmagfngfaaGreatDoorGNdB
/- The walk of indmine's miner.holds. -/
namespace Go.Proofs.YtgahpgmagfngfaaGreatDoor
open Go.RowKit
set_option linter.unusedVariables false

section
variable {P : Program} {k e : TypeId} {κ : Type} {E : KeyE P k κ} {z : Value} {w : World} {b n : Nat} {f : κ → Value} {p : κ → Bool}
theorem OwnG.upd [DecidableEq κ] {t : TypeId} (hown : OwnG E z w b n f p) (ht : P.underlying t = some (.map k e)) (hn : n < maxLen) (s : κ) (y : Value) :
    ∃ w', (Instr.mapUpdate t (.map (some b)) (E.val s) y).run P w = .ok () w' ∧ OwnG E z w' b (n + 1) (updG f s y) (updG p s true) ∧ w.grownBy w' (some b) := by
  obtain ⟨D, h1, h2, h3⟩ := hown
  obtain ⟨w', hrun, r1, r2⟩ := h1.update E.law ht hn (E.key s) (show heldR y = some (DataW.held y, []) from rfl)
  refine ⟨w', hrun, ⟨_, r1, fun t => ?_, fun t => ?_⟩, r2⟩
  · by_cases h : t = s
    · subst h
      rw [show updG f t y t = y from if_pos rfl]
      exact Maps.atKey_put_same h1.isMap (E.law.key (E.key t)) _ _
    · rw [show updG f s y t = f t from if_neg h, Maps.atKey_put_other (fun e => h (E.inj _ _ e))]
      exact h2 t
  · by_cases h : t = s
    · subst h
      rw [show updG p t true t = true from if_pos rfl]
      exact Maps.has_put_same h1.isMap (E.law.key (E.key t)) _
    · rw [show updG p s true t = p t from if_neg h, Maps.has_put_other (fun e => h (E.inj _ _ e))]
      exact h3 t
theorem OwnG.look {t : TypeId} (hown : OwnG E z w b n f p) (ht : P.underlying t = some (.map k e)) (hz : (zeroValue e).run P w = .ok z w) (s : κ) : (Instr.lookup t (.map (some b)) (E.val s) false).run P w = .ok (f s) w := by
  obtain ⟨D, h1, h2, _⟩ := hown
  obtain ⟨v, ps, hrun, hv⟩ := h1.lookup E.law ht hz (show heldR z = some (.held z, []) from rfl) (E.key s)
  have := heldR_inv hv (h2 s)
  subst this
  exact hrun
end
theorem undMapSB : Tryz.prog.underlying 107 = some (.map 9 4) := by kernel_rfl
theorem undStrI : Tryz.prog.underlying 9 = some .string := by kernel_rfl
abbrev OwnSB (w : World) (b n : Nat) (ks : List KS) : Prop := OwnG (strKeys (P := Tryz.prog) (k := 9) undStrI) (.bool false) w b n (fun s => .bool (hasK ks s)) (hasK ks)
theorem OwnSB.made (w : World) : OwnSB (w.alloc (.map #[] 0)) w.heap.size 0 [] := (OwnG.made _ _ _).congr (fun s => rfl) (fun s => rfl)
theorem OwnSB.upd {w : World} {b n : Nat} {ks : List KS} (h : OwnSB w b n ks) (hn : n < maxLen) (s : KS) :
    ∃ w', (Instr.mapUpdate 107 (.map (some b)) (.string s.1) (.bool true)).run Tryz.prog w = .ok () w' ∧ OwnSB w' b (n + 1) (ks ++ [s]) ∧ w.grownBy w' (some b) := by
  obtain ⟨w', h1, h2, h3⟩ := OwnG.upd h undMapSB hn s (.bool true)
  refine ⟨w', h1, h2.congr (fun t => ?_) (fun t => ?_), h3⟩
  · show (if t = s then Value.bool true else .bool (hasK ks t)) = .bool (hasK (ks ++ [s]) t)
    rw [hasK_snoc]
    by_cases e : t = s
    · rw [if_pos e, if_pos e]
    · rw [if_neg e, if_neg e]
  · show (if t = s then true else hasK ks t) = hasK (ks ++ [s]) t
    rw [hasK_snoc]
theorem OwnSB.look {w : World} {b n : Nat} {ks : List KS} (h : OwnSB w b n ks) (s : KS) : (Instr.lookup 107 (.map (some b)) (.string s.1) false).run Tryz.prog w = .ok (.bool (hasK ks s)) w :=
  OwnG.look h undMapSB (Tryz.zeroValue4 w) s

theorem run_makeMapN {P : Program} {t k e : TypeId} (hu : P.underlying t = some (.map k e)) (n : Int) (w : World) : (Instr.makeMap t (some (.int .i64 n))).run P w = .ok (.map (some w.heap.size)) (w.alloc (.map #[] 0)) := by
  simp [Instr.makeMap, run_underlying hu, asInt, asIntOf, Result.andThen]
def keyS (ms : List Nat) (x : Row3) : KS := mkKS (kyB x.2.2 ms)
theorem keyLs_next {rs : List Row3} {ms : List Nat} {k : Nat} {x : Row3} (h : rs[k]? = some x) : keyLs (rs.take (k + 1)) ms = keyLs (rs.take k) ms ++ [keyS ms x] := by
  unfold keyLs keyS; rw [take_next h, List.map_append]; rfl

/-- A miner in its box. -/
structure Mi (w : World) (mb : Nat) (d1 d2 : D3) (same : Bool) (fv : Value) (room : Nat) : Prop where
  c0 : w.cell? ⟨mb, 0, none⟩ = some (.string d1.2.2.1)
  c1 : w.cell? ⟨mb, 1, none⟩ = some d1.1
  c2 : w.cell? ⟨mb, 2, none⟩ = some d1.2.1
  c3 : w.cell? ⟨mb, 3, none⟩ = some (.string d2.2.2.1)
  c4 : w.cell? ⟨mb, 4, none⟩ = some d2.1
  c5 : w.cell? ⟨mb, 5, none⟩ = some d2.2.1
  c6 : w.cell? ⟨mb, 6, none⟩ = some (.bool same)
  c7 : w.cell? ⟨mb, 7, none⟩ = some (.int .i64 3)
  c8 : w.cell? ⟨mb, 8, none⟩ = some fv
  c9 : w.cell? ⟨mb, 9, none⟩ = some (.int .i64 (room : Int))
  f8 : w.frozen? ⟨mb, 8, none⟩ = false
theorem Mi.lt {w : World} {mb : Nat} {d1 d2 : D3} {same : Bool} {fv : Value} {room : Nat} (h : Mi w mb d1 d2 same fv room) : mb < w.heap.size := World.block_lt_of_cell? _ _ h.c0
theorem Mi.block {w w' : World} {mb : Nat} {d1 d2 : D3} {same : Bool} {fv : Value} {room : Nat} (h : Mi w mb d1 d2 same fv room) (hb : w'.heap[mb]? = w.heap[mb]?) : Mi w' mb d1 d2 same fv room := by
  have g : ∀ j, w'.cell? ⟨mb, j, none⟩ = w.cell? ⟨mb, j, none⟩ := fun j => World.cell?_of_block (w := w) hb
  have hf : w'.frozen? ⟨mb, 8, none⟩ = w.frozen? ⟨mb, 8, none⟩ := World.frozen?_of_block hb
  exact ⟨(g _).trans h.c0, (g _).trans h.c1, (g _).trans h.c2, (g _).trans h.c3, (g _).trans h.c4, (g _).trans h.c5, (g _).trans h.c6, (g _).trans h.c7, (g _).trans h.c8, (g _).trans h.c9, hf.trans h.f8⟩
theorem Mi.below {w w' : World} {mb : Nat} {d1 d2 : D3} {same : Bool} {fv : Value} {room : Nat} (h : Mi w mb d1 d2 same fv room) (hb : Below w.heap.size w w') : Mi w' mb d1 d2 same fv room := h.block (hb.block mb h.lt)

/-- Whether a row's key is not there. -/
def lackP (ks : List KS) (l : List Nat) (x : Row3) : Bool := !hasK ks (keyS l x)
set_option maxHeartbeats 1600000 in
theorem mholds1_any (x : Row3) (l : List Nat) (lv : Value) (ks : List KS) (n b lb bx : Nat) (w : World) (hx : RdV w x.2.1 x.2.2) (hl : RdE encI w lv l) (hok : ∀ y ∈ x.2.2, okV y) (hll : ∀ a ∈ l, a < x.2.2.length) (h32 : l.length ≤ 32) (hb : OwnSB w b n ks)
    (hlb : w.cell? ⟨lb, 0, none⟩ = some lv) (hbx : w.cell? ⟨bx, 0, none⟩ = some (.map (some b))) :
    Calls Tryz.prog 111 (#[.agg #[.int .i64 x.1, x.2.1]] ++ #[.pointer (some ⟨bx, 0, none⟩), .pointer (some ⟨lb, 0, none⟩)]) w fun e w' => e = .returned (.bool (lackP ks l x)) ∧ Below w.heap.size w w' := by
  obtain ⟨rid, uv, xs⟩ := x
  obtain ⟨uo, ucap, huv, -⟩ := RdV.split hx
  simp only at huv
  subst huv
  show Calls Tryz.prog 111 #[.agg #[.int .i64 rid, .slice uo xs.length ucap], .pointer (some ⟨bx, 0, none⟩), .pointer (some ⟨lb, 0, none⟩)] w _
  have hb0 := below_alloc w (.cells #[.int .i64 rid, .slice uo xs.length ucap] 87)
  have CR := hid (fun (W : World) h => cells2 (w := w) (a := .int .i64 rid) (b := .slice uo xs.length ucap) (t := 87) W h)
  obtain ⟨w0, hw0⟩ : ∃ w0 : World, w.alloc (.cells #[.int .i64 rid, .slice uo xs.length ucap] 87) = w0 := ⟨_, rfl⟩
  rw [hw0] at hb0 CR
  have W0 := hid hw0
  have B0 := hid hb0
  have H0 := hid (show RdV w0 (.slice uo xs.length ucap) xs from RdC.below hx hb0)
  have L0 := hid (hl.below hb0)
  have AT := hid (fun (W : World) (h : Below w0.heap.size w0 W) => iat_any rid xs (.slice uo xs.length ucap) l lv W (RdC.below H0.out h) (L0.out.below h) hok hll h32)
  have LK := hid (fun (W : World) (h : Below w0.heap.size w0 W) (s : KS) => OwnSB.look (show OwnSB W b n ks from OwnG.below (OwnG.below hb hb0) h) s)
  obtain ⟨lo, lcap, rfl, -⟩ := hl.split
  obtain ⟨K, hK⟩ : ∃ K : KS, keyS l (rid, Value.slice uo xs.length ucap, xs) = K := ⟨_, rfl⟩
  have HQ := hid (show lackP ks l (rid, Value.slice uo xs.length ucap, xs) = !hasK ks K from by unfold lackP; rw [hK])
  have AT2 := hid (fun (W : World) (h : Below w0.heap.size w0 W) => show Calls Tryz.prog 109 #[.agg #[.int .i64 rid, .slice uo xs.length ucap], .slice lo l.length lcap] W fun e w' => e = .returned (.string K.1) ∧ Below W.heap.size W w' from by rw [← hK]; exact AT.out W h)
  have HS := hid (fun (W : World) (h : Below w0.heap.size w0 W) => show Below w0.heap.size w0 W ∧ (W.cell? ⟨w.heap.size, 0, none⟩ = some (.int .i64 rid) ∧ W.cell? ⟨w.heap.size, 1, none⟩ = some (.slice uo xs.length ucap)) ∧ W.cell? ⟨lb, 0, none⟩ = some (.slice lo l.length lcap) ∧ W.cell? ⟨bx, 0, none⟩ = some (.map (some b)) from
    ⟨h, CR.out W h, ((hb0.trans (h.mono hb0.size)).cell (p := ⟨lb, 0, none⟩) (World.block_lt_of_cell? _ _ hlb)).trans hlb, ((hb0.trans (h.mono hb0.size)).cell (p := ⟨bx, 0, none⟩) (World.block_lt_of_cell? _ _ hbx)).trans hbx⟩)
  clear hx hl hok hll h32 hb hlb hbx hb0 hw0 hK CR AT
  go_enter Tryz.func111, Tryz.ntmps111
  go_wp2_with fail
  rw [W0.out]
  have HB0 := hid (Below.refl w0.heap.size w0)
  go_region_held3 (fun W => Below w0.heap.size w0 W ∧ (W.cell? ⟨w.heap.size, 0, none⟩ = some (.int .i64 rid) ∧ W.cell? ⟨w.heap.size, 1, none⟩ = some (.slice uo xs.length ucap)) ∧ W.cell? ⟨lb, 0, none⟩ = some (.slice lo l.length lcap) ∧ W.cell? ⟨bx, 0, none⟩ = some (.map (some b)))
    (first | exact HS.out _ (below_drewN' HB0.out _) | exact HS.out _ HB0.out.drew | exact HS.out _ HB0.out | exact HS.out _ (by assumption))
    (first
      | (go_at_call 109; have hS := And.left ‹Below w0.heap.size w0 _ ∧ _ ∧ _›; (with_reducible refine (AT2.out _ hS).mono ?_); rintro e w3 ⟨rfl, hb3⟩; have hL := hS.trans (hb3.mono hS.size); have hlk := LK.out w3 hL K; have hlk2 := LK.out w3.drew hL.drew K; clear hb3 hS))
  all_goals
    have BQ := hid (B0.out.trans (hL.mono B0.out.size))
    clear hL
    go_wp2_with fail
    go_ret
    exact ⟨ret_bool HQ.out.symm, BQ.out⟩

theorem KeptX.upd {M x : Nat} {a w w' : World} (h : KeptX M x a w) (hg : w.grownBy w' (some x)) (hM : M ≤ w.heap.size) (hx : x ≤ M) : KeptX M x a w' :=
  ⟨h.below.grown hg (by omega) (fun j e => by cases e; exact Nat.le_refl _), fun k h1 h2 => (hg.block k (by omega) (fun e => by have h7 : k = x := Option.some.inj e; omega)).trans (h.rest k h1 h2)⟩
set_option maxHeartbeats 3200000 in
set_option maxRecDepth 100000 in
theorem mholds_any (mb : Nat) (d1 d2 : D3) (same : Bool) (fv : Value) (room : Nat) (l r : List Nat) (lv rv : Value) (w : World) (hm : Mi w mb d1 d2 same fv room) (h1 : RdT w d1.1 d1.2.1 d1.2.2) (h2 : RdT w d2.1 d2.2.1 d2.2.2) (hl : RdE encI w lv l) (hr : RdE encI w rv r)
    (ok1 : RowsOk d1.2.2.2.1.length d1.2.2.2.2) (ok2 : RowsOk d2.2.2.2.1.length d2.2.2.2.2) (hll : ∀ a ∈ l, a < d1.2.2.2.1.length) (hrr : ∀ b ∈ r, b < d2.2.2.2.1.length) (hl3 : l.length ≤ 32) (hr3 : r.length ≤ 32) (r2 : d2.2.2.2.2.length ≤ 6) :
    Calls Tryz.prog 76 #[.pointer (some ⟨mb, 0, none⟩), lv, rv] w fun e w' => e = .returned (.bool (hldB d1.2.2.2.2 d2.2.2.2.2 l r)) ∧ Below w.heap.size w w' := by
  obtain ⟨av1, rv1, nm1, ats1, rs1⟩ := d1
  obtain ⟨av2, rv2, nm2, ats2, rs2⟩ := d2
  obtain ⟨ao1, acap1, ha1, -⟩ := h1.1.split
  obtain ⟨ro1, rcap1, hr1, -⟩ := RdR.split h1.2
  obtain ⟨ao2, acap2, ha2, -⟩ := h2.1.split
  obtain ⟨ro2, rcap2, hr2, -⟩ := RdR.split h2.2
  simp only at ha1 hr1 ha2 hr2 ok1 ok2 hll hrr r2
  subst ha1 hr1 ha2 hr2
  obtain ⟨lo, lcap, rfl, -⟩ := hl.split
  obtain ⟨qo, qcap, rfl, -⟩ := hr.split
  show Calls _ _ _ _ fun e w' => e = .returned (.bool (hldB rs1 rs2 l r)) ∧ Below w.heap.size w w'
  -- the box of the left side, the map, its box
  have hb1 := below_alloc w (.cells #[.slice lo l.length lcap] 37)
  have c1 : (w.alloc (.cells #[.slice lo l.length lcap] 37)).cell? ⟨w.heap.size, 0, none⟩ = some (.slice lo l.length lcap) := cell_new
  obtain ⟨w1, hw1⟩ : ∃ w1 : World, w.alloc (.cells #[.slice lo l.length lcap] 37) = w1 := ⟨_, rfl⟩
  have hs1 : w1.heap.size = w.heap.size + 1 := by rw [← hw1]; simp
  rw [hw1] at hb1 c1
  have W1 := hid hw1
  have M1 := hid (hm.below hb1)
  have hb2 := below_alloc w1 (.map #[] 0)
  have O2 := hid (OwnSB.made w1)
  have hb3 := below_alloc (w1.alloc (.map #[] 0)) (.cells #[.map (some w1.heap.size)] 107)
  have c3 : ((w1.alloc (.map #[] 0)).alloc (.cells #[.map (some w1.heap.size)] 107)).cell? ⟨(w1.alloc (.map #[] 0)).heap.size, 0, none⟩ = some (.map (some w1.heap.size)) := cell_new
  have O3 := hid (OwnG.below O2.out hb3)
  obtain ⟨w3, hw3⟩ : ∃ w3 : World, (w1.alloc (.map #[] 0)).alloc (.cells #[.map (some w1.heap.size)] 107) = w3 := ⟨_, rfl⟩
  have hs2 : (w1.alloc (.map #[] 0)).heap.size = w1.heap.size + 1 := by simp
  have hs3 : w3.heap.size = w1.heap.size + 1 + 1 := by rw [← hw3]; simp
  rw [hw3] at hb3 c3 O3
  rw [hs2] at c3 hb3
  have W3 := hid hw3
  have B3 := hid (hb2.trans (hb3.mono (by omega)))
  have HS1 := hid hs1
  have HS3 := hid hs3
  have M3 := hid (M1.out.below B3.out)
  have B0 := hid (hb1.trans (B3.out.mono (by omega)))
  have CL := hid ((B3.out.cell (p := ⟨w.heap.size, 0, none⟩) (by show w.heap.size < _; omega)).trans c1)
  have CM := hid c3
  have T1 := hid h1
  have T2 := hid h2
  have RL := hid hl
  have RR := hid hr
  obtain ⟨kb, hkb⟩ : ∃ kb, w1.heap.size = kb := ⟨_, rfl⟩
  have HKB := hid hkb
  have MLT := hid (show mb < kb by rw [← hkb]; have := hm.lt; omega)
  rw [hkb] at O3 CM HS3
  have HOK1 := hid ok1
  have HOK2 := hid ok2
  have HLL := hid hll
  have HRR := hid hrr
  have HL3 := hid hl3
  have HR3 := hid hr3
  have rr6 : (rs2.length : Int) ≤ 6 := by omega
  clear hm h1 h2 hl hr ok1 ok2 hll hrr hl3 hr3 hb1 hb2 hb3 hw1 hw3 hs1 hs2 hs3 c1 c3 hkb r2
  obtain ⟨m0, m1, m2, m3, m4, m5, m6, m7, m8, m9, -⟩ := M1.out
  simp only at m0 m1 m2 m3 m4 m5
  have hmm := fun (n : Int) (w : World) => run_makeMapN (P := Tryz.prog) undMapSB n w
  go_enter Tryz.func76, Tryz.ntmps76
  go_upto_region 1 with fail
  rw [W1.out]
  go_upto_region 2 with fail
  rw [W3.out, HKB.out]
  clear m0 m1 m2 m3 m4 m5 m6 m7 m8 m9
  obtain ⟨m0, m1, m2, m3, m4, m5, m6, m7, m8, m9, -⟩ := M3.out
  simp only at m0 m1 m2 m3 m4 m5
  go_wp2_with fail
  go_loopw [23] (fun x wr => ∃ k : Nat, k ≤ rs2.length ∧ x = .int .i64 (k : Int) ∧ OwnSB wr kb k (keyLs (rs2.take k) r) ∧ Hid (KeptX w3.heap.size kb w3 wr) ∧ w3.heap.size ≤ wr.heap.size) (fun x _ => rs2.length - (intOf x).toNat)
  case atStart => exact ⟨0, Nat.zero_le _, rfl, by rw [List.take_zero]; exact O3.out, hid (KeptX.refl _ _ _), Nat.le_refl _⟩
  case round =>
    obtain ⟨k, hk, rfl, hown, HKX, hsz3⟩ := hrel
    have k0 : (0 : Int) ≤ (k : Int) := by omega
    have hkb3 : kb < w3.heap.size := by have := HS3.out; omega
    have MW := hid (M3.out.block ((HKX.out.below.block mb MLT.out)))
    have CMW := hid ((HKX.out.cell (b := kb + 1) (o := 0) (by omega) (by have := HS3.out; omega)).trans CM.out)
    have CLW := hid ((HKX.out.below.cell (p := ⟨w.heap.size, 0, none⟩) (by show w.heap.size < _; have := HS1.out; have := HKB.out; omega)).trans CL.out)
    have BW0 := hid (show Below w.heap.size w wr from B0.out.trans (HKX.out.below.mono (by have := HS1.out; have := HKB.out; omega)))
    have KW := hid (show Below kb w3 wr from HKX.out.below)
    have LE := hid (show ∀ b, b < kb → wr.heap[b]? = w3.heap[b]? from fun b h => HKX.out.below.block b h)
    by_cases hlt : k < rs2.length
    · have hltI : (k : Int) < (rs2.length : Int) := by omega
      obtain ⟨⟨rid, uv, xs⟩, hx⟩ := get_some hlt
      obtain ⟨ro', rcap', hve, -, hrc⟩ := RdR.split T2.out.2
      simp only at hve
      cases hve
      obtain ⟨⟨b, off, rfl, hce⟩, hrv⟩ := hrc k _ hx
      obtain ⟨e0, e1⟩ := hce wr BW0.out
      have hrv1 := hrv wr BW0.out
      obtain ⟨uo, ucap, huv, -⟩ := RdV.split hrv1
      simp only at huv e0 e1
      subst huv
      have HOKX := hid (HOK2.out _ (List.mem_of_getElem? hx))
      have KN := hid (keyLs_next (ms := r) hx)
      have ha1 := below_alloc wr (.cells #[.int .i64 rid, .slice uo xs.length ucap] 87)
      have CR := hid (fun (W : World) h => cells2 (w := wr) (a := .int .i64 rid) (b := .slice uo xs.length ucap) (t := 87) W h)
      obtain ⟨w4, hw4⟩ : ∃ w4 : World, wr.alloc (.cells #[.int .i64 rid, .slice uo xs.length ucap] 87) = w4 := ⟨_, rfl⟩
      rw [hw4] at ha1 CR
      have W4 := hid hw4
      obtain ⟨bq, hbq⟩ : ∃ bq, wr.heap.size = bq := ⟨_, rfl⟩
      have HBQ := hid hbq
      rw [hbq] at CR
      have A1 := hid ha1
      have BW4 := hid (BW0.out.trans (ha1.mono BW0.out.size))
      have O4 := hid (OwnG.below hown ha1)
      have X4 := hid (RdC.below hrv1 ha1)
      have RR4 := hid (RR.out.below BW4.out)
      have HK4 := hid (HKX.out.later ha1 hsz3 (by omega))
      have SZ4 := hid (show w3.heap.size ≤ w4.heap.size from Nat.le_trans hsz3 ha1.size)
      have M4 := hid (MW.out.below ha1)
      have CM4 := hid ((ha1.cell (p := ⟨kb + 1, 0, none⟩) (World.block_lt_of_cell? _ _ CMW.out)).trans CMW.out)
      obtain ⟨K, hK⟩ : ∃ K : KS, keyS r (rid, Value.slice uo xs.length ucap, xs) = K := ⟨_, rfl⟩
      rw [hK] at KN
      have AT := hid (fun (W : World) (h : Below w4.heap.size w4 W) => show Calls Tryz.prog 109 #[.agg #[.int .i64 rid, .slice uo xs.length ucap], .slice qo r.length qcap] W fun e w' => e = .returned (.string K.1) ∧ Below W.heap.size W w' from by
        rw [← hK]
        exact iat_any rid xs (.slice uo xs.length ucap) r _ W (RdC.below X4.out h) (RR4.out.below h) HOKX.out.2 (fun a ha => by rw [HOKX.out.1]; exact HRR.out a ha) HR3.out)
      have KB4 := hid (show kb < bq by rw [← hbq]; omega)
      have HS := hid (fun (W : World) (h : Below w4.heap.size w4 W) => show Below kb w4 W ∧ (W.cell? ⟨bq, 0, none⟩ = some (.int .i64 rid) ∧ W.cell? ⟨bq, 1, none⟩ = some (.slice uo xs.length ucap)) ∧ W.cell? ⟨kb + 1, 0, none⟩ = some (.map (some kb)) from
        ⟨h.mono (by have := SZ4.out; omega), CR.out W h, (h.cell (p := ⟨kb + 1, 0, none⟩) (World.block_lt_of_cell? _ _ CM4.out)).trans CM4.out⟩)
      have HG := hid (fun (V W : World) (h : Below w4.heap.size w4 V) (g : V.grownBy W (some kb)) => show Below kb w4 W ∧ (W.cell? ⟨bq, 0, none⟩ = some (.int .i64 rid) ∧ W.cell? ⟨bq, 1, none⟩ = some (.slice uo xs.length ucap)) ∧ W.cell? ⟨kb + 1, 0, none⟩ = some (.map (some kb)) from by
        obtain ⟨h1, ⟨h2, h3⟩, h4⟩ := HS.out V h
        exact ⟨h1.grown g (by have := h.size; have := SZ4.out; omega) (fun j e => by cases e; exact Nat.le_refl _), ⟨(g.cell_far ⟨bq, 0, none⟩ (World.block_lt_of_cell? _ _ h2) (fun e => by have h7 := KB4.out; have h8 : bq = kb := Option.some.inj e; omega)).trans h2, (g.cell_far ⟨bq, 1, none⟩ (World.block_lt_of_cell? _ _ h3) (fun e => by have h7 := KB4.out; have h8 : bq = kb := Option.some.inj e; omega)).trans h3⟩, (g.cell_far ⟨kb + 1, 0, none⟩ (World.block_lt_of_cell? _ _ h4) (fun e => by cases e)).trans h4⟩)
      have HLT := hid hlt
      have KMX := hid (show k < maxLen by unfold maxLen; omega)
      clear hx hce hrv hrc hrv1 ha1 hw4 hbq hown hK hlt hk m0 m1 m2 m3 m4 m5 m6 m7 m8 m9
      go_upto_region 5 with fail
      rw [W4.out, HBQ.out]
      have HB4 := hid (Below.refl w4.heap.size w4)
      go_region_held3 (fun W => Below kb w4 W ∧ (W.cell? ⟨bq, 0, none⟩ = some (.int .i64 rid) ∧ W.cell? ⟨bq, 1, none⟩ = some (.slice uo xs.length ucap)) ∧ W.cell? ⟨kb + 1, 0, none⟩ = some (.map (some kb)))
        (first | exact HS.out _ (below_drewN' HB4.out _) | exact HS.out _ HB4.out.drew | exact HS.out _ HB4.out | exact HG.out _ _ (by assumption) (by assumption) | exact HS.out _ (by assumption))
        (first
          | (go_at_call 109; (with_reducible refine (AT.out _ (by first | exact below_drewN' HB4.out _ | exact HB4.out.drew | exact HB4.out)).mono ?_); rintro e w5 ⟨rfl, hb5⟩; have hL := HB4.out.drew.trans (hb5.mono HB4.out.drew.size); have O5 := OwnG.below O4.out hL; obtain ⟨w6, hrun, hown6, hg6⟩ := OwnSB.upd (show OwnSB w5 kb k (keyLs (rs2.take k) r) from O5) KMX.out K; clear hb5 O5))
      all_goals
        have O6 := hid (show OwnSB w6 kb (k + 1) (keyLs (rs2.take (k + 1)) r) by rw [KN.out]; exact hown6)
        have HK6 := hid ((HK4.out.later hL SZ4.out (by have := SZ4.out; omega)).upd hg6 (Nat.le_trans SZ4.out hL.size) (Nat.le_of_lt hkb3))
        have SZ6 := hid (show w3.heap.size ≤ w6.heap.size from Nat.le_trans (Nat.le_trans SZ4.out hL.size) hg6.size)
        clear hL hrun hown6 hg6
        go_wp2_with fail
        go_roundw
        case rel => exact ⟨k + 1, by have := HLT.out; omega, by go_num, O6.out, HK6, SZ6.out⟩
        case measure => have := HLT.out; simp [intOf]; omega
    · have hltI : ¬ (k : Int) < (rs2.length : Int) := by omega
      rw [List.take_of_length_le (by omega)] at hown
      have OF := hid hown
      obtain ⟨n0, n1, n2, n3, n4, n5, n6, n7, n8, n9, -⟩ := MW.out
      simp only at n0 n1 n2 n3 n4 n5
      have H1 := hid (fun (x : Row3) (hx : x ∈ rs1) (W : World) (h : Below wr.heap.size wr W) => mholds1_any x l (.slice lo l.length lcap) (keyLs rs2 r) k kb w.heap.size (kb + 1) W (RdC.below (T1.out.2.2 x hx) (BW0.out.trans (h.mono BW0.out.size))) (RL.out.below (BW0.out.trans (h.mono BW0.out.size))) (HOK1.out x hx).2 (fun a ha => by rw [(HOK1.out x hx).1]; exact HLL.out a ha) HL3.out (OwnG.below OF.out h)
        ((h.cell (p := ⟨w.heap.size, 0, none⟩) (World.block_lt_of_cell? _ _ CLW.out)).trans CLW.out) ((h.cell (p := ⟨kb + 1, 0, none⟩) (World.block_lt_of_cell? _ _ CMW.out)).trans CMW.out))
      have CF := hid (rWcontains_any 111 #[.pointer (some ⟨kb + 1, 0, none⟩), .pointer (some ⟨w.heap.size, 0, none⟩)] (lackP (keyLs rs2 r) l) rs1 _ wr (T1.out.2.below BW0.out) (enters _ _ _ Tryz.func111 (by kernel_rfl) rfl) H1.out)
      have HV := hid (show hldB rs1 rs2 l r = !(rs1.any (lackP (keyLs rs2 r) l)) from by
        unfold hldB
        rw [List.not_any_eq_all_not]
        unfold keyLs
        rw [List.all_map]
        congr 1
        funext x
        show hasK _ (mkKS (kyB x.2.2 l)) = !(!hasK _ (keyS l x))
        rw [Bool.not_not]; rfl)
      obtain ⟨R, hR⟩ : ∃ R, rs1.any (lackP (keyLs rs2 r) l) = R := ⟨_, rfl⟩
      rw [hR] at HV CF
      clear hown hR m0 m1 m2 m3 m4 m5 m6 m7 m8 m9 hk hlt
      go_wp2_with fail
      refine CF.out.mono ?_
      rintro e w7 ⟨rfl, hb7⟩
      have B7 := hid (BW0.out.trans (hb7.mono BW0.out.size))
      clear hb7
      go_wp2_with fail
      go_ret
      exact ⟨ret_bool HV.out.symm, B7.out⟩

end Go.Proofs.YtgahpgmagfngfaaGreatDoor


/- The rows that the miner finds, and all else as it was. -/
namespace Go.Proofs.YtgahpgmagfngfaaGreatDoor
open Go.RowKit
set_option linter.unusedVariables false

/-- As step_pushB and wpList_pushB, for elements of up to 128 bytes. -/
theorem step_pushW {α : Type} {P : Program} {w : World} {ops : Array Oper} {o : Oper} {a : Act} {K : Act → World → Prop} {Q : Exit → Act → World → Prop} {E : Prop} (hgd : o.guard = none) (s x : Operand) (t : TypeId)
    (ho : o.op = .call { callee := .builtin .append, args := #[s, x], argTypes := #[t, t] })
    (B : Nat) (e : TypeId) (z : Value) (n bytes : Nat) (ht : P.underlying t = some (.slice e)) (hinfo : (P.info? e).map (fun i => (i.zero, i.size, i.bytes)) = some (some z, n, bytes)) (hz : z.cells.size = n) (hn : 0 < n) (hb8 : bytes ≤ 128)
    (c : α → List Value) (hc : ∀ y, (c y).length = n) (v : Value) (xs : List α) (hs : a.eval s = v) (hown : w.ownsRow B e n v xs.length (xs.flatMap c))
    (ad : Addr) (y : α) (hf : ∀ u ∈ c y, u.oneCell' = true) (hx : a.eval x = .slice (some ad) 1 1) (hy : ∀ j u, (c y)[j]? = some u → w.cell? (ad.add j) = some u) (hl : xs.length < 1000000) (hB : B ≤ w.heap.size)
    (h : ∀ v' w', w'.ownsRow B e n v' (xs ++ [y]).length ((xs ++ [y]).flatMap c) → w.grownBy w' v.ownBlock → (v'.ownBlock = v.ownBlock ∨ v'.ownBlock = some w.heap.size) → K (a.put o.dst v') w') :
    if Region.wanted o (yielded ops a.tmps) = true then Oper.wp P o a w K Q else E := by
  obtain ⟨i, hi, hz0, hz1, hz2⟩ := info_parts hinfo
  refine step_append_lies w hgd s x t ho B e i z n bytes ht hi hz0 hz1 hz2 hz hn v xs.length (xs.flatMap c) hs hown ad 1 1 (c y) hx (by rw [hc, Nat.one_mul]) hy hf (by omega) ?_ ?_ hB _ rfl ?_
  · unfold maxLen; omega
  · refine Nat.le_trans (Nat.mul_le_mul_left _ hb8) ?_; omega
  · intro g cap w' h1 h2 h3 _
    refine h _ w' ?_ h2 (h3.elim (fun e => .inl e.symm) fun e => .inr (by rw [e]; rfl))
    simpa using h1
theorem wpList_pushW {α : Type} {P : Program} {w : World} {ops : Array Oper} {rest : List Oper} {o : Oper} {a : Act} {Q : Exit → Act → World → Prop} (hgd : o.guard = none) (s x : Operand) (t : TypeId)
    (ho : o.op = .call { callee := .builtin .append, args := #[s, x], argTypes := #[t, t] })
    (B : Nat) (e : TypeId) (z : Value) (n bytes : Nat) (ht : P.underlying t = some (.slice e)) (hinfo : (P.info? e).map (fun i => (i.zero, i.size, i.bytes)) = some (some z, n, bytes)) (hz : z.cells.size = n) (hn : 0 < n) (hb8 : bytes ≤ 128)
    (c : α → List Value) (hc : ∀ y, (c y).length = n) (v : Value) (xs : List α) (hs : a.eval s = v) (hown : w.ownsRow B e n v xs.length (xs.flatMap c))
    (ad : Addr) (y : α) (hf : ∀ u ∈ c y, u.oneCell' = true) (hx : a.eval x = .slice (some ad) 1 1) (hy : ∀ j u, (c y)[j]? = some u → w.cell? (ad.add j) = some u) (hl : xs.length < 1000000) (hB : B ≤ w.heap.size)
    (h : ∀ v' w', w'.ownsRow B e n v' (xs ++ [y]).length ((xs ++ [y]).flatMap c) → w.grownBy w' v.ownBlock → (v'.ownBlock = v.ownBlock ∨ v'.ownBlock = some w.heap.size) → wpList P ops Q rest (a.put o.dst v') w') : wpList P ops Q (o :: rest) a w := by
  obtain ⟨i, hi, hz0, hz1, hz2⟩ := info_parts hinfo
  refine wpList_append_lies w hgd s x t ho B e i z n bytes ht hi hz0 hz1 hz2 hz hn v xs.length (xs.flatMap c) hs hown ad 1 1 (c y) hx (by rw [hc, Nat.one_mul]) hy hf (by omega) ?_ ?_ hB _ rfl ?_
  · unfold maxLen; omega
  · refine Nat.le_trans (Nat.mul_le_mul_left _ hb8) ?_; omega
  · intro g cap w' h1 h2 h3 _
    refine h _ w' ?_ h2 (h3.elim (fun e => .inl e.symm) fun e => .inr (by rw [e]; rfl))
    simpa using h1
theorem own_shape {w : World} {B m n : Nat} {e : TypeId} {v : Value} {xs : List Value} (h : w.ownsRow B e m v n xs) : ∃ ao cap, v = .slice ao n cap := by
  rcases h.2 with ⟨h1, h2⟩ | ⟨g', cap', cur, hv, _⟩
  · exact ⟨none, 0, by rw [h1, h2]⟩
  · exact ⟨_, cap', hv⟩

theorem undINDs : Tryz.prog.underlying 33 = some (.slice 39) := by kernel_rfl
theorem infoIND : (Tryz.prog.info? 39).map (fun i => (i.zero, i.size, i.bytes)) = some (some (.agg #[.string (ByteArray.mk #[]), .slice none 0 0, .string (ByteArray.mk #[]), .slice none 0 0]), 4, 80) := by kernel_rfl

/-- All that lay in w lies in w', but block mb and the row of fv, which is that of fv' now. -/
structure Fr (mb : Nat) (w : World) (fv : Value) (w' : World) (fv' : Value) : Prop where
  os : w'.os = w.os
  tape : w'.tape = w.tape
  output : w'.output = w.output
  size : w.heap.size ≤ w'.heap.size
  block : ∀ k, k < w.heap.size → k ≠ mb → fv.ownBlock ≠ some k → w'.heap[k]? = w.heap[k]?
  own : fv'.ownBlock = fv.ownBlock ∨ ∃ g, fv'.ownBlock = some g ∧ w.heap.size ≤ g
theorem Fr.refl (mb : Nat) (w : World) (fv : Value) : Fr mb w fv w fv := ⟨rfl, rfl, rfl, Nat.le_refl _, fun _ _ _ _ => rfl, .inl rfl⟩
theorem Fr.trans {mb : Nat} {w w1 w2 : World} {fv f1 f2 : Value} (h : Fr mb w fv w1 f1) (h2 : Fr mb w1 f1 w2 f2) : Fr mb w fv w2 f2 := by
  refine ⟨h2.os.trans h.os, h2.tape.trans h.tape, h2.output.trans h.output, Nat.le_trans h.size h2.size, fun k hk h3 h4 => ?_, ?_⟩
  · refine (h2.block k (Nat.lt_of_lt_of_le hk h.size) h3 ?_).trans (h.block k hk h3 h4)
    rcases h.own with e | ⟨g, e, hl⟩
    · rw [e]; exact h4
    · rw [e]; intro e2; have : g = k := Option.some.inj e2; omega
  · rcases h2.own with e | ⟨g, e, hl⟩
    · rw [e]; exact h.own
    · exact .inr ⟨g, e, Nat.le_trans h.size hl⟩
theorem Fr.of_below {mb : Nat} {w w' : World} {fv : Value} (hb : Below w.heap.size w w') : Fr mb w fv w' fv := ⟨hb.os, hb.tape, hb.output, hb.size, fun k hk _ _ => hb.block k hk, .inl rfl⟩
theorem Fr.below {mb : Nat} {w w1 w2 : World} {fv f1 : Value} (h : Fr mb w fv w1 f1) (hb : Below w1.heap.size w1 w2) : Fr mb w fv w2 f1 := h.trans (Fr.of_below hb)
/-- What lies below the miner and its row is as it was. -/
theorem Fr.to_below {mb B : Nat} {w w' : World} {fv fv' : Value} (h : Fr mb w fv w' fv') (h1 : B ≤ mb) (h2 : ∀ g, fv.ownBlock = some g → B ≤ g) (h3 : B ≤ w.heap.size) : Below B w w' :=
  ⟨h.os, h.tape, h.output, h.size, fun k hk => h.block k (by omega) (by omega) (fun e => by have := h2 k e; omega)⟩
theorem Fr.rd {mb : Nat} {w w' : World} {fv fv' : Value} (h : Fr mb w fv w' fv') {α : Type} {f : α → Value} {v : Value} {xs : List α} (hr : RdE f w v xs) (h1 : FarV v (some mb)) (h2 : FarV v fv.ownBlock) : RdE f w' v xs := by
  obtain ⟨ao, cap, rfl, h3, h4, h5⟩ := hr
  refine ⟨ao, cap, rfl, h3, h4, fun hp => ?_⟩
  obtain ⟨b, off, rfl, hlt, hc⟩ := h5 hp
  have e : w'.heap[b]? = w.heap[b]? := h.block b hlt (fun e => h1 _ _ _ rfl hp (by rw [e])) (fun e => h2 _ _ _ rfl hp e)
  exact ⟨b, off, rfl, Nat.lt_of_lt_of_le hlt h.size, fun j u hu => (World.cell?_of_block (w := w) e).trans (hc j u hu)⟩
theorem Fr.far {mb : Nat} {w w' : World} {fv fv' : Value} (h : Fr mb w fv w' fv') {α : Type} {f : α → Value} {v : Value} {xs : List α} (hr : RdE f w v xs) (h2 : FarV v fv.ownBlock) : FarV v fv'.ownBlock := by
  rcases h.own with e | ⟨g, e, hl⟩
  · rw [e]; exact h2
  · rw [e]
    obtain ⟨ao, cap, rfl, h3, h4, h5⟩ := hr
    intro a len cap' hv hp
    cases hv
    obtain ⟨b, off, e2, hlt, _⟩ := h5 hp
    cases e2
    intro e3
    have : g = b := Option.some.inj e3
    omega
/-- What the miner found. -/
structure Fnd (w : World) (B mb : Nat) (fv : Value) (xs : List I6) : Prop where
  own : w.ownsRow B 39 4 fv xs.length (xs.flatMap cI)
  rd : ∀ x ∈ xs, RdE encI w x.1 x.2.2.2.2.1 ∧ RdE encI w x.2.1 x.2.2.2.2.2
  far : ∀ x ∈ xs, (FarV x.1 fv.ownBlock ∧ FarV x.2.1 fv.ownBlock) ∧ FarV x.1 (some mb) ∧ FarV x.2.1 (some mb)
  ne : fv.ownBlock ≠ some mb
  lo : ∀ x ∈ xs, ∀ j, j < B → FarV x.1 (some j) ∧ FarV x.2.1 (some j)
theorem Fnd.below {w w' : World} {B mb : Nat} {fv : Value} {xs : List I6} (h : Fnd w B mb fv xs) (hb : Below w.heap.size w w') : Fnd w' B mb fv xs :=
  ⟨own_below h.own hb, fun x hx => ⟨(h.rd x hx).1.below hb, (h.rd x hx).2.below hb⟩, h.far, h.ne, h.lo⟩
theorem Fnd.nil (w : World) (B mb : Nat) : Fnd w B mb (.slice none 0 0) [] := ⟨World.ownsRow_nil _ _ _ _, fun x hx => absurd hx (by simp), fun x hx => absurd hx (by simp), by simp [Value.ownBlock], fun x hx => absurd hx (by simp)⟩
theorem cells_newI (w : World) (x : I6) {t : TypeId} : ∀ j u, (cI x)[j]? = some u → (w.alloc (.cells #[.string (nmT x.2.2.1), x.1, .string (nmT x.2.2.2.1), x.2.1] t)).cell? (Addr.add ⟨w.heap.size, 0, none⟩ j) = some u := by
  intro j u hj
  have hj2 : j < 4 := (List.getElem?_eq_some_iff.1 hj).1
  rcases (show j = 0 ∨ j = 1 ∨ j = 2 ∨ j = 3 by omega) with rfl | rfl | rfl | rfl <;> (simp [cI] at hj; subst hj; simp [Addr.add])
theorem cI_one {x : I6} (h1 : x.1.oneCell' = true) (h2 : x.2.1.oneCell' = true) : ∀ u ∈ cI x, u.oneCell' = true := by
  intro u hu
  simp only [cI, List.mem_cons, List.not_mem_nil, or_false] at hu
  rcases hu with rfl | rfl | rfl | rfl
  · rfl
  · exact h1
  · rfl
  · exact h2
/-- One more is found and stored. -/
theorem Fnd.push {w w1 : World} {B mb : Nat} {fv fv' : Value} {xs : List I6} {x : I6} (h : Fnd w B mb fv xs) (hr : RdE encI w x.1 x.2.2.2.2.1 ∧ RdE encI w x.2.1 x.2.2.2.2.2) (hf : (FarV x.1 fv.ownBlock ∧ FarV x.2.1 fv.ownBlock) ∧ FarV x.1 (some mb) ∧ FarV x.2.1 (some mb))
    (hown : w1.ownsRow B 39 4 fv' (xs ++ [x]).length ((xs ++ [x]).flatMap cI)) (hg : w.grownBy w1 fv.ownBlock) (ho : fv'.ownBlock = fv.ownBlock ∨ fv'.ownBlock = some w.heap.size) (hm : mb < w.heap.size) (hlo : ∀ j, j < B → FarV x.1 (some j) ∧ FarV x.2.1 (some j)) :
    Fnd (w1.setCell ⟨mb, 8, none⟩ fv') B mb fv' (xs ++ [x]) ∧ Fr mb w fv (w1.setCell ⟨mb, 8, none⟩ fv') fv' := by
  have hne : fv'.ownBlock ≠ some mb := by
    rcases ho with e | e
    · rw [e]; exact h.ne
    · rw [e]; intro e2; have : w.heap.size = mb := Option.some.inj e2; omega
  have hF : Fr mb w fv (w1.setCell ⟨mb, 8, none⟩ fv') fv' := by
    refine ⟨by show w1.os = _; exact hg.os, by show w1.tape = _; exact hg.tape, by show w1.output = _; exact hg.output, by simpa using hg.size, fun k hk h1 h2 => ?_, ?_⟩
    · refine Eq.trans ?_ (hg.block k hk (fun e => h2 e.symm))
      unfold World.setCell
      simp only
      rw [Array.getElem?_modify, if_neg (fun e => h1 e.symm)]
    · rcases ho with e | e
      · exact .inl e
      · exact .inr ⟨_, e, Nat.le_refl _⟩
  have key : ∀ y ∈ xs ++ [x], (RdE encI w y.1 y.2.2.2.2.1 ∧ RdE encI w y.2.1 y.2.2.2.2.2) ∧ (FarV y.1 fv.ownBlock ∧ FarV y.2.1 fv.ownBlock) ∧ FarV y.1 (some mb) ∧ FarV y.2.1 (some mb) := by
    intro y hy
    rcases List.mem_append.1 hy with hy | hy
    · exact ⟨h.rd y hy, h.far y hy⟩
    · rw [List.mem_singleton] at hy; subst hy; exact ⟨hr, hf⟩
  refine ⟨⟨ownsRow_setCell_other hown hne _, fun y hy => ?_, fun y hy => ?_, hne, fun y hy => ?_⟩, hF⟩
  · obtain ⟨⟨h1, h2⟩, ⟨h3, h4⟩, h5, h6⟩ := key y hy
    exact ⟨hF.rd h1 h5 h3, hF.rd h2 h6 h4⟩
  · obtain ⟨⟨h1, h2⟩, ⟨h3, h4⟩, h5, h6⟩ := key y hy
    exact ⟨⟨hF.far h1 h3, hF.far h2 h4⟩, h5, h6⟩
  · rcases List.mem_append.1 hy with hy | hy
    · exact h.lo y hy
    · rw [List.mem_singleton] at hy; subst hy; exact hlo
theorem Mi.set {w w1 : World} {mb : Nat} {d1 d2 : D3} {same : Bool} {fv fv' : Value} {room : Nat} (h : Mi w mb d1 d2 same fv room) (hg : w.grownBy w1 fv.ownBlock) (hne : fv.ownBlock ≠ some mb) : Mi (w1.setCell ⟨mb, 8, none⟩ fv') mb d1 d2 same fv' room := by
  have h1 := h.block (hg.block mb h.lt (fun e => hne e.symm))
  have g : ∀ j, j ≠ 8 → (w1.setCell ⟨mb, 8, none⟩ fv').cell? ⟨mb, j, none⟩ = w1.cell? ⟨mb, j, none⟩ := fun j hj => World.cell?_setCell_other _ _ _ _ (by simp)
  exact ⟨(g _ (by decide)).trans h1.c0, (g _ (by decide)).trans h1.c1, (g _ (by decide)).trans h1.c2, (g _ (by decide)).trans h1.c3, (g _ (by decide)).trans h1.c4, (g _ (by decide)).trans h1.c5, (g _ (by decide)).trans h1.c6, (g _ (by decide)).trans h1.c7, World.cell?_setCell_same _ _ _ h1.c8, (g _ (by decide)).trans h1.c9, by simp [h1.f8]⟩
/-- What lies far from a base that is above. -/
theorem far_lo {w : World} {B m n : Nat} {e : TypeId} {v : Value} {xs : List Value} (h : w.ownsRow B e m v n xs) {j : Nat} (hj : j < B) : FarV v (some j) := by
  intro a len cap hv hp e2
  have := (h.lt a.block (by rw [hv]; rfl)).1
  have : j = a.block := Option.some.inj e2
  omega
theorem far_lo' {w : World} {B m n : Nat} {e : TypeId} {v : Value} {xs : List Value} (h : w.ownsRow B e m v n xs) {o : Option Nat} (ho : ∀ j, o = some j → j < B) : FarV v o := by
  cases o with
  | none => intro a len cap _ _ e; cases e
  | some j => exact far_lo h (ho j rfl)

end Go.Proofs.YtgahpgmagfngfaaGreatDoor

