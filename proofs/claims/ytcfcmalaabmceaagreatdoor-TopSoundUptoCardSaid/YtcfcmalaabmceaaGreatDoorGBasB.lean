/- Texts that belong together, in one file. -/
import Derived.Test.YtcfcmalaabmceaaGreatDoorGKm2
import Derived.Test.YtcfcmalaabmceaaGreatDoorGTabA
import Derived.Test.YtcfcmalaabmceaaGreatDoorGKm1
import Derived.Test.YtcfcmalaabmceaaGreatDoorGTab27
import Derived.Maps.RangeWalk
import Derived.Test.YtcfcmalaabmceaaGreatDoorGTabB
import Derived.Test.YtcfcmalaabmceaaGreatDoorGFdmB
import Derived.Deep.RegionHeld3
import Derived.StillTailTactics
import Derived.Test.YtcfcmalaabmceaaGreatDoorGBas
import Derived.Test.YtcfcmalaabmceaaGreatDoorGSort
/- The walk of basis.key. -/
namespace Go.Proofs.YtcfcmalaabmceaaGreatDoor
open Go.RowKit
set_option linter.unusedVariables false
set_option linter.unusedSimpArgs false

set_option maxHeartbeats 800000 in
theorem bkey_any (rid : Int) (xs : List V3) (v : Value) (s : S) (w : World) (hT : Tab w) (hv : RdV w v xs) (hok : ∀ x ∈ xs, okV x) (hs : ∀ a ∈ memN s 32, a < xs.length) (hl : xs.length ≤ 16) :
    Calls Tryz.prog 30 #[.agg #[.int .i64 rid, v], .int .u32 (iv s)] w fun e w' => e = .returned (.string (strB (kyB xs (memN s 32)))) ∧ Below w.heap.size w w' := by
  have hb0 := below_alloc w (.cells #[.int .i64 rid, v] 87)
  have C2 := hid (fun (W : World) h => cells2 (w := w) (a := .int .i64 rid) (b := v) (t := 87) W h)
  obtain ⟨w0, hw0⟩ : ∃ w0 : World, w.alloc (.cells #[.int .i64 rid, v] 87) = w0 := ⟨_, rfl⟩
  rw [hw0] at hb0 C2
  have W0 := hid hw0
  have B0 := hid hb0
  have MM := hid (amembers_any s w0 (hT.below hb0))
  have V0 := hid (show RdV w0 v xs from RdC.below hv hb0)
  have KE := hid (fun (x : V3) (W : World) (hx : x ∈ xs) => key_any x (hok x hx) W)
  have HML := hid (memN_length s 32)
  have HIN := hid hs
  have XL := hid hl
  have hok' : ∀ x ∈ xs, validV x = true := fun x hx => (hok x hx).1
  obtain ⟨vo, vcap, rfl, -, hvc⟩ := RdV.split V0.out
  have VC := hid hvc
  simp only [enc_eq] at MM
  generalize memN s 32 = ms at *
  clear hb0 hw0 hT hv hok hs hl hvc
  go_enter Tryz.func30, Tryz.ntmps30
  go_upto_region 1 with fail
  rw [W0.out]
  go_wp2_with fail
  refine MM.out.mono ?_
  rintro e w2 ⟨v2, rfl, ho2, hb2⟩
  have D2 := hid hb2
  have R2 := RdE.of_owns ho2 (by have := HML.out; omega)
  obtain ⟨mo, mcap, rfl, -, hmc⟩ := R2.split
  have MC := hid hmc
  have ml : (ms.length : Int) ≤ 32 := by have := HML.out; omega
  clear ho2 hb2 R2 hmc
  unfold encI at MC
  go_wp2_with fail
  go_loopw [5, 13] (fun o x wr => ∃ j : Nat, j ≤ ms.length ∧ x = .int .i64 (j : Int) ∧ o = .string (strB (kyB xs (ms.take j))) ∧ Below w2.heap.size w2 wr) (fun _ x _ => ms.length - (intOf x).toNat)
  case atStart => exact ⟨0, Nat.zero_le _, rfl, rfl, Below.refl _ _⟩
  case round =>
    obtain ⟨j, hj, rfl, rfl, hnx⟩ := hrel
    have j0 : (0 : Int) ≤ (j : Int) := by omega
    by_cases hlt : j < ms.length
    · have hltI : (j : Int) < (ms.length : Int) := by omega
      obtain ⟨a, ha⟩ := get_some hlt
      obtain ⟨mb, moff, rfl, hmd⟩ := MC.out j a ha
      have em := hmd wr hnx
      have hal := HIN.out a (List.mem_of_getElem? ha)
      have a0 : (0 : Int) ≤ (a : Int) := by omega
      have al : (a : Int) < (xs.length : Int) := by omega
      obtain ⟨x, hx⟩ := get_some hal
      obtain ⟨xb, xoff, rfl, hxd⟩ := VC.out a x hx
      have BW := D2.out.trans (hnx.mono D2.out.size)
      obtain ⟨x0, x1, x2⟩ := hxd wr BW
      obtain ⟨c0, c1⟩ := C2.out wr BW
      have KX := hid (KE.out x wr (List.mem_of_getElem? hx))
      have NX := hid (kyB_next ha hx)
      have HNX := hid hnx
      have HLT := hid hlt
      have hsz : ¬ 9223372036854775807 < (strB (kyB xs (ms.take j))).size + (keyB x).length := by
        have h1 := keyB_length x (hok' x (List.mem_of_getElem? hx))
        have h2 : (kyB xs (ms.take j)).length ≤ 403 * ((ms.take j).map fun a => xs.getD a noV).length := keysB_length (fun y hy => by
          obtain ⟨b, hb, rfl⟩ := List.mem_map.1 hy
          have hbl := HIN.out b (List.mem_of_mem_take hb)
          rw [List.getD_eq_getElem?_getD, List.getElem?_eq_getElem hbl]
          exact hok' _ (List.getElem_mem _))
        have h3 : (ms.take j).length ≤ 32 := by rw [List.length_take]; have := HML.out; omega
        rw [List.length_map] at h2
        rw [strB_size]
        omega
      clear ha hmd hal hx hxd BW hnx hlt
      go_wp2_with fail
      refine KX.out.mono ?_
      rintro e w3 ⟨rfl, hb3⟩
      have N3 := hid (HNX.out.trans (hb3.mono HNX.out.size))
      clear hb3 em x0 x1 x2 c0 c1
      go_wp2_with fail
      go_roundw
      case rel => exact ⟨j + 1, by have := HLT.out; omega, by go_num, by rw [NX.out, ← strB_append]; rfl, N3.out⟩
      case measure => have := HLT.out; simp [intOf]; omega
    · have hltI : ¬ (j : Int) < (ms.length : Int) := by omega
      have NX := hid (show ms.take j = ms from List.take_of_length_le (by omega))
      have BF := hid (B0.out.trans ((D2.out.trans (hnx.mono D2.out.size)).mono B0.out.size))
      rw [NX.out]
      clear hnx hlt
      go_wp2_with fail
      go_ret
      exact ⟨rfl, BF.out⟩

end Go.Proofs.YtcfcmalaabmceaaGreatDoor


/- Maps of strings to truth, of which the number of keys is asked; ranging over a map of strings. No program. -/
namespace Go.Proofs.YtcfcmalaabmceaaGreatDoor
open Go.RowKit
open Go.Maps (Keyed)
set_option linter.unusedVariables false
set_option linter.unusedSimpArgs false

section
variable {P : Program} {k e : TypeId} {κ : Type}
/-- Block b is a map of at most n entries whose keys are ks. -/
def OwnZ [DecidableEq κ] (E : KeyE P k κ) (w : World) (b n : Nat) (ks : List κ) : Prop :=
  ∃ D : DataW Value, w.ownsMap P k heldR b n D ∧ (∀ s, Maps.has D (E.lit s) = decide (s ∈ ks)) ∧ Maps.size D = ks.length
variable [DecidableEq κ] {E : KeyE P k κ} {w : World} {b n : Nat} {ks : List κ}
theorem OwnZ.made (E : KeyE P k κ) (w : World) : OwnZ E (w.alloc (.map #[] 0)) w.heap.size 0 ([] : List κ) :=
  ⟨.map [], World.ownsMap_made w P k _, fun _ => rfl, rfl⟩
theorem OwnZ.kept {w' : World} {row : Option Nat} (h : OwnZ E w b n ks) (hg : w.grownBy w' row) (hne : some b ≠ row) : OwnZ E w' b n ks := by
  obtain ⟨D, h1, h2⟩ := h; exact ⟨D, h1.kept hg hne, h2⟩
theorem OwnZ.lt (h : OwnZ E w b n ks) : b < w.heap.size := by obtain ⟨D, h1, _⟩ := h; exact h1.lt
theorem OwnZ.mono {n' : Nat} (h : OwnZ E w b n ks) (hn : n ≤ n') : OwnZ E w b n' ks := by
  obtain ⟨D, h1, h2⟩ := h; exact ⟨D, h1.mono hn, h2⟩
theorem OwnZ.below {w' : World} (h : OwnZ E w b n ks) (hb : Below w.heap.size w w') : OwnZ E w' b n ks := by
  obtain ⟨D, ⟨es, c, h1, h3⟩, h2⟩ := h
  exact ⟨D, ⟨es, c, (hb.block b (Array.getElem?_eq_some_iff.1 h1).1).trans h1, h3⟩, h2⟩
/-- The store, as the operation runs. -/
theorem OwnZ.upd {t : TypeId} (hown : OwnZ E w b n ks) (ht : P.underlying t = some (.map k e)) (hn : n < maxLen) (s : κ) (y : Value) :
    ∃ w', (Instr.mapUpdate t (.map (some b)) (E.val s) y).run P w = .ok () w' ∧ OwnZ E w' b (n + 1) (dedStep ks s) ∧ w.grownBy w' (some b) := by
  obtain ⟨D, h1, h3, h4⟩ := hown
  obtain ⟨w', hrun, r1, r2⟩ := h1.update E.law ht hn (E.key s) (show heldR y = some (DataW.held y, []) from rfl)
  have hsz := Maps.size_put (h1.tidy E.law) (k := E.lit s) (DataW.held y)
  refine ⟨w', hrun, ⟨_, r1, fun t => ?_, ?_⟩, r2⟩
  · by_cases h : t = s
    · subst h
      rw [Maps.has_put_same h1.isMap (E.law.key (E.key t))]
      symm
      rw [decide_eq_true_iff]
      unfold dedStep
      split
      · assumption
      · simp
    · rw [Maps.has_put_other (fun e => h (E.inj _ _ e)), h3]
      rw [decide_eq_decide]
      unfold dedStep
      split
      · rfl
      · simp [h]
  · rw [hsz, h3, h4]
    unfold dedStep
    by_cases h : s ∈ ks
    · simp [h]
    · simp [h]
theorem wpList_zlen {ops : Array Oper} {rest : List Oper} {o : Oper} {a : Act} {Q : Exit → Act → World → Prop} (hg : o.guard = none) (m : Operand) (t : TypeId) (hop : o.op = Op.call { callee := Callee.builtin Builtin.len, args := #[m], argTypes := #[t] })
    (ht : P.underlying t = some (.map k e)) (hm : a.eval m = .map (some b)) (hown : OwnZ E w b n ks)
    (hK : wpList P ops Q rest (a.put o.dst (.int .i64 (ks.length : Int))) w) : wpList P ops Q (o :: rest) a w := by
  obtain ⟨D, h1, _, h4⟩ := hown
  exact wpList_len_own w hg m t hop k e ht heldR b n D hm h1 (by rw [h4]; exact hK)

end

section
variable {P : Program} {k e : TypeId} {κ : Type}
/-- A loop over a map is under way: left says which keys are still to come, cnt how many. -/
def RngG (E : KeyE P k κ) (z : Value) (w : World) (b r n : Nat) (f : κ → Value) (p left : κ → Bool) (cnt : Nat) : Prop :=
  ∃ (D : DataW Value) (lf : Lit → Bool), w.ranges P k heldR b r n D lf cnt ∧ (∀ s, D.atKey (E.lit s) (.held z) = .held (f s)) ∧ (∀ s, Maps.has D (E.lit s) = p s) ∧ (∀ s, lf (E.lit s) = left s) ∧ ∀ s, left s = true → p s = true
variable {E : KeyE P k κ} {w : World} {b n : Nat} {z : Value} {r cnt : Nat} {f : κ → Value} {p left : κ → Bool}
theorem RngG.kept {w' : World} {row : Option Nat} (h : RngG E z w b r n f p left cnt) (hg : w.grownBy w' row) (hb : some b ≠ row) (hr : some r ≠ row) : RngG E z w' b r n f p left cnt := by
  obtain ⟨D, lf, h1, h2⟩ := h; exact ⟨D, lf, h1.kept hg hb hr, h2⟩
theorem RngG.below {w' : World} (h : RngG E z w b r n f p left cnt) (hb : Below w.heap.size w w') : RngG E z w' b r n f p left cnt := h.kept (row := none) ⟨hb.os, hb.tape, hb.output, hb.size, fun i hi _ => hb.block i hi⟩ (by simp) (by simp)
theorem RngG.left_eq (h : RngG E z w b r n f p left cnt) : w.rangeLeft b r = cnt := by
  obtain ⟨D, lf, h1, _⟩ := h; exact h1.left_eq
theorem wpList_grange {ops : Array Oper} {rest : List Oper} {o : Oper} {a : Act} {Q : Exit → Act → World → Prop} (hg : o.guard = none) (m : Operand) (t : TypeId) (hop : o.op = Op.range t m)
    (ht : P.underlying t = some (.map k e)) (hm : a.eval m = .map (some b)) (hown : OwnG E z w b n f p)
    (hK : ∀ w' cnt, RngG E z w' b w.heap.size n f p p cnt → cnt ≤ n → Below w.heap.size w w' → w'.heap.size = w.heap.size + 1 → wpList P ops Q rest (a.put o.dst (.pointer (some ⟨w.heap.size, 0, none⟩))) w') : wpList P ops Q (o :: rest) a w := by
  obtain ⟨D, h1, h2, h3⟩ := hown
  refine wpList_range_own w hg m t hop k e E.law ht _ b n D hm h1 ?_
  intro w' r1 r2 r3
  exact hK w' _ ⟨D, _, r1, h2, h3, h3, fun _ h => h⟩ h1.size_le ((Below.refl _ w).grown r2 (Nat.le_refl _) (fun j hj => by cases hj)) r3
theorem wpList_gnext [DecidableEq κ] {ops : Array Oper} {rest : List Oper} {o : Oper} {a : Act} {Q : Exit → Act → World → Prop} (hg : o.guard = none) (it : Operand) (hop : o.op = Op.next it false)
    (hinv : ∀ key kl, keyOf P k key = some kl → ∃ x, key = E.val x)
    (hit : a.eval it = .pointer (some ⟨r, 0, none⟩)) (h : RngG E z w b r n f p left cnt)
    (hDone : cnt = 0 → (∀ s, left s = false) → wpList P ops Q rest (a.put o.dst (.tuple #[.bool false])) w)
    (hMore : ∀ (s : κ) (w' : World) (cnt' : Nat), left s = true → p s = true → RngG E z w' b r n f p (fun t => left t && !decide (t = s)) cnt' → cnt' < cnt → w.grownBy w' (some r) → w'.heap.size = w.heap.size →
      (Instr.entry (.pointer (some ⟨r, 0, none⟩))).run P w' = .ok (.tuple #[E.val s, f s]) w' → wpList P ops Q rest (a.put o.dst (.tuple #[.bool true, E.val s, f s])) w') : wpList P ops Q (o :: rest) a w := by
  obtain ⟨D, lf, h1, h2, h3, h4, h5⟩ := h
  refine wpList_next_ranges w hg it hop k E.law heldR E.val (id : Value → Value) hinv (fun v _ _ => ⟨v, rfl⟩) b r n D lf cnt hit h1 ?_ ?_
  · intro h0 hl
    exact hDone h0 fun s => by rw [← h4, hl]
  · intro s c kl y w' cnt' hkey hl hc hat hr hlt hgr hsz hen
    obtain rfl : kl = E.lit s := by
      rw [E.key s] at hkey
      exact (Option.some.inj hkey).symm
    rw [h4] at hl
    have hcf : c = f s := by
      have e1 := hat (.held z)
      rw [h2] at e1
      exact heldR_inv hc e1.symm
    simp only [id] at hen ⊢
    rw [hcf] at hen ⊢
    have same : ∀ t, (E.lit t).sameKey (E.lit s) = decide (t = s) := fun t => by
      by_cases h : t = s
      · subst h; rw [WideAt.sameKey_self (E.law.key (E.key t))]; simp
      · rw [Maps.sameKey_ne (fun e => h (E.inj _ _ e))]; simp [h]
    exact hMore s w' cnt' hl (h5 s hl) ⟨D, _, hr, h2, h3, fun t => by rw [h4, same], fun t ht => h5 t (by simp at ht; exact ht.1)⟩ hlt hgr hsz hen
end
theorem str_inv {P : Program} {k : TypeId} (hk : P.underlying k = some .string) : ∀ key kl, keyOf P k key = some kl → ∃ x, key = (strKeys hk).val x := by
  intro key kl h
  obtain ⟨s, rfl, -, hs⟩ := WideMaps.string_of_keyOf hk h
  exact ⟨⟨s, hs⟩, rfl⟩

end Go.Proofs.YtcfcmalaabmceaaGreatDoor


/- The groups of basis.Holds: a map of strings to three maps each. -/
namespace Go.Proofs.YtcfcmalaabmceaaGreatDoor
open Go.RowKit
set_option linter.unusedVariables false
set_option linter.unusedSimpArgs false

theorem undStrB3 : Tryz.prog.underlying 9 = some .string := by kernel_rfl
theorem undMapB3 : Tryz.prog.underlying 84 = some (.map 9 90) := by kernel_rfl
theorem undMapB1 : Tryz.prog.underlying 89 = some (.map 9 4) := by kernel_rfl
noncomputable abbrev sK3 := strKeys (P := Tryz.prog) (k := 9) undStrB3
def zA3 : Value := .agg #[.map none, .map none, .map none]
def arr3 (f : Nat → Nat) : Value := .agg #[.map (some (f 0)), .map (some (f 1)), .map (some (f 2))]
/-- The rows' keys: of the left side, of the right one, of the rest, of both. -/
abbrev K4 := KS × KS × KS × KS
def sel3 (j : Nat) (t : K4) : KS := if j = 0 then t.2.1 else if j = 1 then t.2.2.1 else t.2.2.2
def colK (T : List K4) (x : KS) (j : Nat) : List KS := dedK ((T.filter fun t => decide (t.1 = x)).map (sel3 j))
theorem colK_snoc (T : List K4) (t : K4) (x : KS) (j : Nat) : colK (T ++ [t]) x j = if t.1 = x then dedStep (colK T x j) (sel3 j t) else colK T x j := by
  unfold colK
  rw [List.filter_append]
  by_cases h : t.1 = x
  · rw [if_pos h, List.filter_cons_of_pos (by simpa using h), List.filter_nil, List.map_append, List.map_cons, List.map_nil, dedK_snoc]
  · rw [if_neg h, List.filter_cons_of_neg (by simpa using h), List.filter_nil, List.append_nil]
theorem colK_new {T : List K4} {x : KS} (h : x ∉ T.map (·.1)) (j : Nat) : colK T x j = [] := by
  unfold colK
  rw [List.filter_eq_nil_iff.2 (fun t ht => ?_)]
  · rfl
  · intro e
    exact h (List.mem_map.2 ⟨t, ht, by simpa using e⟩)
structure Gps (w : World) (B mb n : Nat) (fB : KS → Nat → Nat) (ks : List KS) (col : KS → Nat → List KS) : Prop where
  map : OwnG sK3 zA3 w mb n (fun x => if hasK ks x = true then arr3 (fB x) else zA3) (hasK ks)
  inn : ∀ x ∈ ks, ∀ j, j < 3 → OwnZ sK3 w (fB x j) n (col x j)
  dis : ∀ x ∈ ks, ∀ y ∈ ks, ∀ i j, i < 3 → j < 3 → fB x i = fB y j → x = y ∧ i = j
  far : ∀ x ∈ ks, ∀ j, j < 3 → B ≤ fB x j ∧ fB x j ≠ mb
  mB : B ≤ mb
variable {w w' : World} {B mb n : Nat} {fB : KS → Nat → Nat} {ks : List KS} {col : KS → Nat → List KS}
theorem Gps.below (h : Gps w B mb n fB ks col) (hb : Below w.heap.size w w') : Gps w' B mb n fB ks col :=
  ⟨h.map.below hb, fun x hx j hj => (h.inn x hx j hj).below hb, h.dis, h.far, h.mB⟩
theorem Gps.lt (h : Gps w B mb n fB ks col) {x : KS} (hx : x ∈ ks) {j : Nat} (hj : j < 3) : fB x j < w.heap.size := (h.inn x hx j hj).lt
theorem Gps.mono {n' : Nat} (h : Gps w B mb n fB ks col) (hn : n ≤ n') : Gps w B mb n' fB ks col :=
  ⟨h.map.mono hn, fun x hx j hj => (h.inn x hx j hj).mono hn, h.dis, h.far, h.mB⟩
theorem Gps.congr {col' : KS → Nat → List KS} (h : Gps w B mb n fB ks col) (hc : ∀ x ∈ ks, ∀ j, j < 3 → col x j = col' x j) : Gps w B mb n fB ks col' :=
  ⟨h.map, fun x hx j hj => hc x hx j hj ▸ h.inn x hx j hj, h.dis, h.far, h.mB⟩
theorem grownBy_setC (w : World) (p : Addr) (v : Value) : w.grownBy (w.setCell p v) (some p.block) :=
  ⟨rfl, rfl, rfl, by simp, fun k hk hne => heap_setCell_other w p k v (fun e => hne (by rw [e]))⟩
theorem Gps.kept {row : Option Nat} (h : Gps w B mb n fB ks col) (hg : w.grownBy w' row) (hr : ∀ j, row = some j → j ≠ mb ∧ ∀ x ∈ ks, ∀ i, i < 3 → fB x i ≠ j) : Gps w' B mb n fB ks col :=
  ⟨h.map.kept hg (fun e => (hr mb e.symm).1 rfl), fun x hx j hj => (h.inn x hx j hj).kept hg (fun e => (hr _ e.symm).2 x hx j hj rfl), h.dis, h.far, h.mB⟩
/-- A new group. -/
theorem Gps.add {K : KS} {b0 b1 b2 : Nat} (h : Gps w B mb n fB ks col) (hK : K ∉ ks) (hc : ∀ j, j < 3 → col K j = []) (h0 : OwnZ sK3 w b0 n ([] : List KS)) (h1 : OwnZ sK3 w b1 n ([] : List KS)) (h2 : OwnZ sK3 w b2 n ([] : List KS))
    (d01 : b0 ≠ b1) (d02 : b0 ≠ b2) (d12 : b1 ≠ b2) (hl : ∀ x ∈ ks, ∀ j, j < 3 → fB x j < b0 ∧ fB x j < b1 ∧ fB x j < b2) (hB : B ≤ b0 ∧ B ≤ b1 ∧ B ≤ b2) (hm : b0 ≠ mb ∧ b1 ≠ mb ∧ b2 ≠ mb) {w' : World}
    (hmap : OwnG sK3 zA3 w' mb (n + 1) (updG (fun x => if hasK ks x = true then arr3 (fB x) else zA3) K (.agg #[.map (some b0), .map (some b1), .map (some b2)])) (updG (hasK ks) K true)) (hg : w.grownBy w' (some mb)) :
    Gps w' B mb (n + 1) (fun x j => if x = K then (if j = 0 then b0 else if j = 1 then b1 else b2) else fB x j) (ks ++ [K]) col := by
  have hne : ∀ x ∈ ks, x ≠ K := fun x hx e => hK (e ▸ hx)
  have hmem : ∀ x, x ∈ ks ++ [K] ↔ x ∈ ks ∨ x = K := fun x => by simp
  refine ⟨hmap.congr (fun x => ?_) (fun x => ?_), fun x hx j hj => ?_, fun x hx y hy i j hi hj e => ?_, fun x hx j hj => ?_, h.mB⟩
  · by_cases e : x = K
    · subst e
      rw [show updG (fun x => if hasK ks x = true then arr3 (fB x) else zA3) x (.agg #[.map (some b0), .map (some b1), .map (some b2)]) x = _ from if_pos rfl, if_pos (hasK_in (by simp))]
      simp [arr3]
    · have he : hasK (ks ++ [K]) x = hasK ks x := by rw [hasK_snoc, if_neg e]
      refine (show updG (fun x => if hasK ks x = true then arr3 (fB x) else zA3) K (.agg #[.map (some b0), .map (some b1), .map (some b2)]) x = (if hasK ks x = true then arr3 (fB x) else zA3) from if_neg e).trans ?_
      rw [he]
      by_cases hh : hasK ks x = true
      · rw [if_pos hh, if_pos hh]
        simp [arr3, e]
      · rw [if_neg hh, if_neg hh]
  · by_cases e : x = K
    · subst e
      rw [show updG (hasK ks) x true x = true from if_pos rfl]
      exact (hasK_in (by simp)).symm
    · rw [show updG (hasK ks) K true x = hasK ks x from if_neg e, hasK_snoc, if_neg e]
  · rcases (hmem x).1 hx with hx | hx
    · simp only [if_neg (hne x hx)]
      exact ((h.inn x hx j hj).mono (Nat.le_succ _)).kept hg (fun e => (h.far x hx j hj).2 (Option.some.inj e))
    · subst hx
      simp only [if_true]
      rw [hc j hj]
      rcases (show j = 0 ∨ j = 1 ∨ j = 2 by omega) with rfl | rfl | rfl
      · exact (h0.mono (Nat.le_succ _)).kept hg (fun e => hm.1 (Option.some.inj e))
      · exact (h1.mono (Nat.le_succ _)).kept hg (fun e => hm.2.1 (Option.some.inj e))
      · exact (h2.mono (Nat.le_succ _)).kept hg (fun e => hm.2.2 (Option.some.inj e))
  · rcases (hmem x).1 hx with hx' | hx' <;> rcases (hmem y).1 hy with hy' | hy'
    · simp only [if_neg (hne x hx'), if_neg (hne y hy')] at e
      exact h.dis x hx' y hy' i j hi hj e
    · subst hy'
      exfalso
      simp only [if_neg (hne x hx'), if_true] at e
      have := hl x hx' i hi
      rcases (show j = 0 ∨ j = 1 ∨ j = 2 by omega) with rfl | rfl | rfl <;> simp at e <;> omega
    · subst hx'
      exfalso
      simp only [if_neg (hne y hy'), if_true] at e
      have := hl y hy' j hj
      rcases (show i = 0 ∨ i = 1 ∨ i = 2 by omega) with rfl | rfl | rfl <;> simp at e <;> omega
    · subst hx'; subst hy'
      refine ⟨rfl, ?_⟩
      simp only [if_true] at e
      rcases (show i = 0 ∨ i = 1 ∨ i = 2 by omega) with rfl | rfl | rfl <;> rcases (show j = 0 ∨ j = 1 ∨ j = 2 by omega) with rfl | rfl | rfl <;> simp at e <;> first | rfl | (exfalso; omega)
  · rcases (hmem x).1 hx with hx | hx
    · simp only [if_neg (hne x hx)]
      exact h.far x hx j hj
    · subst hx
      simp only [if_true]
      rcases (show j = 0 ∨ j = 1 ∨ j = 2 by omega) with rfl | rfl | rfl <;> simp <;> first | exact ⟨hB.1, hm.1⟩ | exact ⟨hB.2.1, hm.2.1⟩ | exact ⟨hB.2.2, hm.2.2⟩
/-- One more key in one of a group's maps. -/
theorem Gps.put {K s : KS} {i : Nat} (h : Gps w B mb n fB ks col) (hK : K ∈ ks) (hi : i < 3) (ho : OwnZ sK3 w' (fB K i) (n + 1) (dedStep (col K i) s)) (hg : w.grownBy w' (some (fB K i))) :
    Gps w' B mb (n + 1) fB ks (fun x j => if x = K ∧ j = i then dedStep (col K i) s else col x j) := by
  refine ⟨(h.map.mono (Nat.le_succ _)).kept hg (fun e => (h.far K hK i hi).2 (Option.some.inj e).symm), fun x hx j hj => ?_, h.dis, h.far, h.mB⟩
  by_cases e : x = K ∧ j = i
  · obtain ⟨rfl, rfl⟩ := e
    simp only [and_self, if_true]
    exact ho
  · simp only [if_neg e]
    exact ((h.inn x hx j hj).mono (Nat.le_succ _)).kept hg (fun e2 => e (h.dis x hx K hK j i hj hi (Option.some.inj e2)))

/-- A box of three maps. -/
def Box3 (w : World) (p a b c : Nat) : Prop := w.cell? ⟨p, 0, none⟩ = some (.map (some a)) ∧ w.cell? ⟨p, 1, none⟩ = some (.map (some b)) ∧ w.cell? ⟨p, 2, none⟩ = some (.map (some c))
/-- The store of a key, as the operation runs. -/
theorem Gps.upd {K : KS} {i : Nat} (h : Gps w B mb n fB ks col) (hK : K ∈ ks) (hi : i < 3) (hn : n < maxLen) (s : KS) {w3 : World} (hb : Below mb w3 w) (hB : mb ≤ fB K i) {gx a b c : Nat} (hx : gx ≠ fB K i) (hg : Box3 w gx a b c) :
    ∃ w', (Instr.mapUpdate 89 (.map (some (fB K i))) (.string s.1) (.bool true)).run Tryz.prog w = .ok () w' ∧ Gps w' B mb (n + 1) fB ks (fun x j => if x = K ∧ j = i then dedStep (col K i) s else col x j) ∧ Below mb w3 w' ∧ Box3 w' gx a b c := by
  obtain ⟨w', h1, h2, h3⟩ := (h.inn K hK i hi).upd undMapB1 hn s (.bool true)
  have hf : ∀ (o : Nat) (v : Value), w.cell? ⟨gx, o, none⟩ = some v → w'.cell? ⟨gx, o, none⟩ = some v := fun o v hv => (h3.cell_far ⟨gx, o, none⟩ (World.block_lt_of_cell? _ _ hv) (fun e => hx (Option.some.inj e))).trans hv
  exact ⟨w', h1, h.put hK hi h2 h3, hb.grown h3 (Nat.le_of_lt h.map.lt) (fun j e => by cases e; exact hB), hf _ _ hg.1, hf _ _ hg.2.1, hf _ _ hg.2.2⟩

end Go.Proofs.YtcfcmalaabmceaaGreatDoor


/- The walk of basis.Holds. -/
namespace Go.Proofs.YtcfcmalaabmceaaGreatDoor
open Go.RowKit
set_option linter.unusedVariables false
set_option linter.unusedSimpArgs false

def kK (r : Row3) (s : S) : KS := mkKS (kyB r.2.2 (memN s 32))
def k4 (x y z : S) (r : Row3) : K4 := (kK r x, kK r y, kK r z, mkKS (kyB r.2.2 (memN y 32) ++ kyB r.2.2 (memN z 32)))
/-- What Holds reckons of the rows' keys. -/
def mvdT (T : List K4) : Bool := (dedK (T.map (·.1))).all fun x => decide ((colK T x 0).length * (colK T x 1).length = (colK T x 2).length)
def mvdC (n : Nat) (rs : List Row3) (m : F) : Bool := mvdT (rs.map (k4 m.1 (m.2 &&& ~~~ m.1) (fullN n &&& ~~~ (m.1 ||| m.2))))
theorem hasK_mem {ks : List KS} {x : KS} (h : hasK ks x = true) : x ∈ ks := by
  by_cases hx : x ∈ ks
  · exact hx
  · rw [hasK_out hx] at h; cases h
theorem colK_le (T : List K4) (x : KS) (j : Nat) : (colK T x j).length ≤ T.length := by
  unfold colK
  have h1 := dedK_length ((T.filter fun t => decide (t.1 = x)).map (sel3 j))
  rw [List.length_map] at h1
  exact Nat.le_trans h1 (List.length_filter_le _ _)
/-- A group is good: all combinations of its left and right halves are there. -/
def goodK (T : List K4) (x : KS) : Bool := decide ((colK T x 0).length * (colK T x 1).length = (colK T x 2).length)
theorem mvdT_eq (T : List K4) : mvdT T = (dedK (T.map (·.1))).all (goodK T) := rfl
theorem kyB_len {xs : List V3} {s : S} (hok : ∀ x ∈ xs, okV x) (hs : ∀ a ∈ memN s 32, a < xs.length) : (kyB xs (memN s 32)).length ≤ 12896 := by
  have h : (kyB xs (memN s 32)).length ≤ 403 * ((memN s 32).map fun a => xs.getD a noV).length := keysB_length (fun y hy => by
    obtain ⟨b, hb, rfl⟩ := List.mem_map.1 hy
    have hbl := hs b hb
    rw [List.getD_eq_getElem?_getD, List.getElem?_eq_getElem hbl]
    exact (hok _ (List.getElem_mem _)).1)
  rw [List.length_map] at h
  have := memN_length s 32
  omega
theorem mem_full {n : Nat} {s : S} (hn : n ≤ 32) (hs : sub s (fullN n)) : ∀ a ∈ memN s 32, a < n := fun a ha => by
  obtain ⟨h1, h2⟩ := mem_memN.1 ha
  exact full_le hs h1 h2
theorem colK_end {T : List K4} {k : Nat} {t : K4} (h : T[k]? = some t) (x : KS) (j : Nat) : colK (T.take (k + 1)) x j = if t.1 = x then dedStep (colK (T.take k) x j) (sel3 j t) else colK (T.take k) x j := by
  rw [take_next h, colK_snoc]

set_option maxHeartbeats 12800000 in
set_option maxRecDepth 100000 in
theorem bholds_any (t : T3) (av rv : Value) (m : F) (w : World) (ht : RdT w av rv t) (hT : Tab w) (hE : tabE2 t = 0) (hok : okT t) (hs1 : sub m.1 (fullN t.2.1.length)) (hs2 : sub m.2 (fullN t.2.1.length)) :
    Calls Tryz.prog 13 #[.agg #[.string t.1, av, rv], .agg #[.int .u32 (iv m.1), .int .u32 (iv m.2)]] w fun e w' => e = .returned (.tuple #[.bool (mvdC t.2.1.length t.2.2 m), .int .i64 0]) ∧ Below w.heap.size w w' := by
  have hb00 := below_alloc w (.cells #[.string t.1, av, rv] 35)
  have hb01 := below_alloc (w.alloc (.cells #[.string t.1, av, rv] 35)) (.cells #[.int .u32 (iv m.1), .int .u32 (iv m.2)] 51)
  have hb0 := hb00.trans (hb01.mono hb00.size)
  have C3 := hid (fun W (h : Below ((w.alloc (.cells #[.string t.1, av, rv] 35)).alloc (.cells #[.int .u32 (iv m.1), .int .u32 (iv m.2)] 51)).heap.size ((w.alloc (.cells #[.string t.1, av, rv] 35)).alloc (.cells #[.int .u32 (iv m.1), .int .u32 (iv m.2)] 51)) W) => cells3 (w := w) (a := .string t.1) (b := av) (c := rv) (t := 35) W (hb01.trans (h.mono hb01.size)))
  have F2 := hid (fun W h => cells2 (w := w.alloc (.cells #[.string t.1, av, rv] 35)) (a := .int .u32 (iv m.1)) (b := .int .u32 (iv m.2)) (t := 51) W h)
  rw [show (w.alloc (.cells #[.string t.1, av, rv] 35)).heap.size = w.heap.size + 1 by simp] at F2
  have T0 := hid (ht.below hb0)
  have HT0 := hid (hT.below hb0)
  obtain ⟨w0, hw0⟩ : ∃ w0 : World, (w.alloc (.cells #[.string t.1, av, rv] 35)).alloc (.cells #[.int .u32 (iv m.1), .int .u32 (iv m.2)] 51) = w0 := ⟨_, rfl⟩
  rw [hw0] at hb0 C3 T0 F2 HT0
  have B0 := hid hb0
  have W0 := hid hw0
  have E := hid (tabE2_tab hE)
  have TO := hid (tabE2_ok hE)
  have TV := hid (fun (W : World) (h : Below w0.heap.size w0 W) => tvalid_any t av rv W (T0.out.below h))
  rw [E.out] at TV
  have SH := hid (show (m.1 ||| m.2) >>> t.2.1.length = 0#32 from beq_iff_eq.1 ((shrOk_sub (by have := TO.out.1; omega)).2 (sub_or.2 ⟨hs1, hs2⟩)))
  have SF := hid (shl_fullM (m := t.2.1.length) (by have := TO.out.1; omega))
  have hsy : sub (m.2 &&& ~~~ m.1) (fullN t.2.1.length) := fun i hi hx => hs2 i hi (by rw [BitVec.getLsbD_and, Bool.and_eq_true] at hx; exact hx.1)
  have hsz : sub (fullN t.2.1.length &&& ~~~ (m.1 ||| m.2)) (fullN t.2.1.length) := fun i hi hx => by rw [BitVec.getLsbD_and, Bool.and_eq_true] at hx; exact hx.1
  have KY := hid (fun (r : Row3) (hr : r ∈ t.2.2) (s : S) (hs : sub s (fullN t.2.1.length)) (W : World) (h : Below w0.heap.size w0 W) => show Calls Tryz.prog 30 #[.agg #[.int .i64 r.1, r.2.1], .int .u32 (iv s)] W fun e w' => e = .returned (.string (kK r s).1) ∧ Below W.heap.size W w' from by
    have hl := (TO.out.2.2 r hr).1
    have hm := mem_full (by have := TO.out.1; omega) hs
    have h1 := bkey_any r.1 r.2.2 r.2.1 s W (HT0.out.below h) ((T0.out.2.2 r hr).below h) (hok r hr) (by rw [hl]; exact hm) (by rw [hl]; exact TO.out.1)
    rw [← mkKS_val (by have := kyB_len (hok r hr) (by rw [hl]; exact hm); unfold maxLen; omega)] at h1
    exact h1)
  have HY := hid hsy
  have HZ := hid hsz
  have H1 := hid hs1
  have ADD := hid (fun (r : Row3) (hr : r ∈ t.2.2) => show (kK r (m.2 &&& ~~~ m.1)).1 ++ (kK r (fullN t.2.1.length &&& ~~~ (m.1 ||| m.2))).1 = (k4 m.1 (m.2 &&& ~~~ m.1) (fullN t.2.1.length &&& ~~~ (m.1 ||| m.2)) r).2.2.2.1 ∧ ¬ 9223372036854775807 < (kK r (m.2 &&& ~~~ m.1)).1.size + (kK r (fullN t.2.1.length &&& ~~~ (m.1 ||| m.2))).1.size from by
    have hl := (TO.out.2.2 r hr).1
    have l1 := kyB_len (hok r hr) (s := m.2 &&& ~~~ m.1) (by rw [hl]; exact mem_full (by have := TO.out.1; omega) hsy)
    have l2 := kyB_len (hok r hr) (s := fullN t.2.1.length &&& ~~~ (m.1 ||| m.2)) (by rw [hl]; exact mem_full (by have := TO.out.1; omega) hsz)
    unfold kK k4
    rw [mkKS_val (by unfold maxLen; omega), mkKS_val (by unfold maxLen; omega), mkKS_val (by rw [List.length_append]; unfold maxLen; omega), strB_append, strB_size, strB_size]
    exact ⟨rfl, by omega⟩)
  obtain ⟨nm, ats, rs⟩ := t
  simp only at TV KY ADD SH SF HY HZ H1 C3 T0 TO
  have a16 := TO.out.1
  have RL := hid TO.out.2.1
  have a0 : (0 : Int) ≤ (ats.length : Int) := by omega
  have a1 : (ats.length : Int) ≤ 16 := by omega
  have a2 : (ats.length : Int) < 32 := by omega
  have r9 : (rs.length : Int) ≤ 200 := by have := RL.out; omega
  obtain ⟨ao, acap, rfl, -⟩ := T0.out.1.split
  obtain ⟨ro, rcap, rfl, -, hrc⟩ := RdR.split T0.out.2
  have RC := hid hrc
  show Calls _ _ _ _ fun e w' => e = .returned (.tuple #[.bool (mvdT (rs.map (k4 m.1 (m.2 &&& ~~~ m.1) (fullN ats.length &&& ~~~ (m.1 ||| m.2))))), .int .i64 0]) ∧ Below w.heap.size w w'
  obtain ⟨Y, hY⟩ : ∃ Y, m.2 &&& ~~~ m.1 = Y := ⟨_, rfl⟩
  obtain ⟨Z, hZ⟩ : ∃ Z, fullN ats.length &&& ~~~ (m.1 ||| m.2) = Z := ⟨_, rfl⟩
  have EY := hid hY
  have EZ := hid (show (1#32 <<< ats.length - 1#32) &&& ~~~ (m.1 ||| m.2) = Z by rw [SF.out]; exact hZ)
  rw [hY] at HY ADD ⊢
  rw [hZ] at HZ ADD ⊢
  obtain ⟨T, hTT⟩ : ∃ T, rs.map (k4 m.1 Y Z) = T := ⟨_, rfl⟩
  rw [hTT]
  have TA := hid (fun (k : Nat) (r : Row3) (h : rs[k]? = some r) => show T[k]? = some (k4 m.1 Y Z r) from by rw [← hTT, List.getElem?_map, h]; rfl)
  have TL := hid (show T.length = rs.length by rw [← hTT, List.length_map])
  obtain ⟨c0, c1, c2⟩ := C3.out _ (Below.refl _ _)
  obtain ⟨d0, d1⟩ := F2.out _ (Below.refl _ _)
  have sh := SH.out
  clear ht hT hb00 hb01 hb0 hw0 hE hok hs1 hs2 hsy hsz a16 hrc hY hZ hTT
  have hmm := @run_makeMap Tryz.prog
  go_enter Tryz.func13, Tryz.ntmps13
  go_upto_region 1 with fail
  rw [W0.out]
  go_wp2_with fail
  refine (TV.out _ (Below.refl _ _)).mono ?_
  rintro e w1 ⟨rfl, hb1⟩
  have D1 := hid hb1
  clear hb1 c0 c1 c2 d0 d1
  obtain ⟨c0, c1, c2⟩ := C3.out _ D1.out
  obtain ⟨d0, d1⟩ := F2.out _ D1.out
  go_wp2_with fail
  go_quiet (fail)
  rename Nat => nq
  rw [EY.out, EZ.out]
  obtain ⟨w2, hw2⟩ : ∃ w2 : World, w1.drewN nq = w2 := ⟨_, rfl⟩
  have D2 := hid (show Below w0.heap.size w0 w2 by rw [← hw2]; exact below_drewN' D1.out _)
  rw [hw2]
  clear hw2 c0 c1 c2 d0 d1 sh
  obtain ⟨c0, c1, c2⟩ := C3.out _ D2.out
  have HM := hid (OwnG.made sK3 zA3 w2)
  have BM := hid (below_alloc w2 (.map #[] 0))
  obtain ⟨mb, hmb⟩ : ∃ mb, w2.heap.size = mb := ⟨_, rfl⟩
  have HMB := hid hmb
  obtain ⟨w3, hw3⟩ : ∃ w3 : World, w2.alloc (.map #[] 0) = w3 := ⟨_, rfl⟩
  rw [hw3] at HM BM
  have W3 := hid hw3
  rw [hmb] at HM BM
  have D3 := hid (show Below w0.heap.size w0 w3 from D2.out.trans (BM.out.mono (by rw [← hmb]; exact D2.out.size)))
  have SM := hid (show w0.heap.size ≤ mb by rw [← hmb]; exact D2.out.size)
  have G0 := hid (show Gps w3 mb mb 0 (fun _ _ => 0) (dedK (([] : List K4).map (·.1))) (colK []) from
    ⟨HM.out.congr (fun x => rfl) (fun x => rfl), fun x hx => absurd hx (by simp [dedK]), fun x hx => absurd hx (by simp [dedK]), fun x hx => absurd hx (by simp [dedK]), Nat.le_refl _⟩)
  clear hmb hw3
  go_upto_region 9 with fail
  rw [W3.out, HMB.out]
  clear c0 c1 c2
  obtain ⟨c0, c1, c2⟩ := C3.out _ D3.out
  go_wp2_with fail
  clear c0 c1 c2
  go_loopw [54] (fun x wr => ∃ (k : Nat) (fB : KS → Nat → Nat), k ≤ rs.length ∧ x = .int .i64 (k : Int) ∧ Gps wr mb mb (4 * k) fB (dedK ((T.take k).map (·.1))) (colK (T.take k)) ∧ Below mb w3 wr) (fun x _ => rs.length - (intOf x).toNat)
  case atStart => exact ⟨0, _, Nat.zero_le _, rfl, by rw [List.take_zero]; exact G0.out, BM.out.mono (Nat.le_refl _) |> fun _ => Below.refl _ _⟩
  case round =>
    obtain ⟨k, fB, hk, rfl, hgp, hnx⟩ := hrel
    have k0 : (0 : Int) ≤ (k : Int) := by omega
    have k9 : (k : Int) ≤ 200 := by have := RL.out; omega
    have DR := hid (show Below w0.heap.size w0 wr from D3.out.trans (hnx.mono SM.out))
    by_cases hlt : k < rs.length
    · have hltI : (k : Int) < (rs.length : Int) := by omega
      obtain ⟨⟨rid, vv, xs⟩, hr⟩ := get_some hlt
      obtain ⟨⟨rb, roff, rfl, hrd⟩, hrv⟩ := RC.out k _ hr
      obtain ⟨e0, e1⟩ := hrd wr DR.out
      simp only at e0 e1
      obtain ⟨vo, vcap, hve, -⟩ := RdV.split (hrv wr DR.out)
      simp only at hve
      subst hve
      have MR := hid (List.mem_of_getElem? hr)
      have TK := hid (TA.out k _ hr)
      have HLT := hid hlt
      obtain ⟨R, hR⟩ : ∃ R : Row3, ((rid, Value.slice vo xs.length vcap, xs) : Row3) = R := ⟨_, rfl⟩
      have KYR := hid (fun (s : S) (hs : sub s (fullN ats.length)) (W : World) (h : Below w0.heap.size w0 W) => show Calls Tryz.prog 30 #[.agg #[.int .i64 rid, .slice vo xs.length vcap], .int .u32 (iv s)] W fun e w' => e = .returned (.string (kK R s).1) ∧ Below W.heap.size W w' from by
        have h1 : Calls Tryz.prog 30 #[.agg #[.int .i64 rid, .slice vo xs.length vcap], .int .u32 (iv s)] W fun e w' => e = .returned (.string (kK ((rid, Value.slice vo xs.length vcap, xs) : Row3) s).1) ∧ Below W.heap.size W w' := KY.out _ MR.out s hs W h
        rw [show kK ((rid, Value.slice vo xs.length vcap, xs) : Row3) s = kK R s from by rw [hR]] at h1
        exact h1)
      have ADR := ADD.out _ MR.out
      rw [hR] at TK ADR
      have AD := hid ADR
      have BX := hid (below_alloc wr (.cells #[.int .i64 rid, .slice vo xs.length vcap] 87))
      have R2 := hid (fun (W : World) h => cells2 (w := wr) (a := .int .i64 rid) (b := .slice vo xs.length vcap) (t := 87) W h)
      obtain ⟨w5, hw5⟩ : ∃ w5 : World, wr.alloc (.cells #[.int .i64 rid, .slice vo xs.length vcap] 87) = w5 := ⟨_, rfl⟩
      rw [hw5] at BX R2
      have W5 := hid hw5
      obtain ⟨bx, hbx⟩ : ∃ bx, wr.heap.size = bx := ⟨_, rfl⟩
      have HBX := hid hbx
      have MBX := hid (show mb < bx by rw [← hbx]; exact hgp.map.lt)
      rw [hbx] at R2
      have D5 := hid (DR.out.trans (BX.out.mono DR.out.size))
      have G5 := hid (hgp.below BX.out)
      have N5 := hid (hnx.trans (BX.out.mono (by have := hnx.size; have := hgp.map.lt; omega)))
      clear hr hrd hrv hw5 hbx hgp hnx hlt hk ADR hR
      go_upto_region 12 with fail
      rw [W5.out, HBX.out]
      clear e0 e1
      obtain ⟨q0, q1⟩ := R2.out _ (Below.refl _ _)
      obtain ⟨d0, d1⟩ := F2.out _ D5.out
      go_wp2_with fail
      refine (KYR.out m.1 H1.out _ D5.out).mono ?_
      rintro e w6 ⟨rfl, hb6⟩
      have D6 := hid (D5.out.trans (hb6.mono D5.out.size))
      have G6 := hid (G5.out.below hb6)
      have N6 := hid (N5.out.trans (hb6.mono (by have h1 := N5.out.size; have h2 := G5.out.map.lt; omega)))
      have B56 := hid hb6
      obtain ⟨K, hK⟩ : ∃ K, kK R m.1 = K := ⟨_, rfl⟩
      rw [hK]
      have EK := hid hK
      clear hb6 q0 q1 d0 d1 hK
      obtain ⟨ks, hks⟩ : ∃ ks, dedK ((T.take k).map (·.1)) = ks := ⟨_, rfl⟩
      have HKS := hid hks
      have KS1 := hid (show dedK ((T.take (k + 1)).map (·.1)) = dedStep ks K from by
        rw [take_next TK.out, List.map_append, List.map_cons, List.map_nil, dedK_snoc, hks]
        show dedStep ks (kK R m.1) = _
        rw [EK.out])
      have KMEM := hid (fun (x : KS) => show x ∈ ks ↔ x ∈ (T.take k).map (·.1) from by rw [← hks]; exact (dedK_facts _).1 x)
      rw [hks] at G6
      clear hks
      obtain ⟨gx, hgx⟩ : ∃ gx, w6.heap.size = gx := ⟨_, rfl⟩
      have HGX := hid hgx
      have RB6 := hid (fun (W : World) (h : Below w6.heap.size w6 W) => R2.out W (B56.out.trans (h.mono B56.out.size)))
      have MB6 := hid (show mb < gx by rw [← hgx]; exact G6.out.map.lt)
      by_cases hin : K ∈ ks
      · have HP := hid (hasK_in hin)
        have FV := hid (show (if hasK ks K = true then arr3 (fB K) else zA3) = arr3 (fB K) from if_pos HP.out)
        have BG := hid (below_alloc w6 (.cells #[.map (some (fB K 0)), .map (some (fB K 1)), .map (some (fB K 2))] 90))
        have GC := hid (fun (W : World) h => cells3 (w := w6) (a := .map (some (fB K 0))) (b := .map (some (fB K 1))) (c := .map (some (fB K 2))) (t := 90) W h)
        obtain ⟨wj, hwj⟩ : ∃ wj : World, w6.alloc (.cells #[.map (some (fB K 0)), .map (some (fB K 1)), .map (some (fB K 2))] 90) = wj := ⟨_, rfl⟩
        rw [hwj] at BG GC
        rw [hgx] at GC
        have WJ := hid hwj
        have GJ := hid ((G6.out.below BG.out).mono (show 4 * k ≤ 4 * k + 1 by omega))
        have KJ := hid hin
        have KSJ := hid (show ks = dedStep ks K by unfold dedStep; rw [if_pos hin])
        have NE3 := hid (show ∀ j, j < 3 → gx ≠ fB K j from fun j hj => by have := G6.out.lt hin hj; have := HGX.out; omega)
        have RBJ := hid (fun (W : World) (h : Below wj.heap.size wj W) => RB6.out W (BG.out.trans (h.mono BG.out.size)))
        have DJ := hid (D6.out.trans (BG.out.mono D6.out.size))
        have NJ := hid (N6.out.trans (BG.out.mono (by have := MB6.out; omega)))
        clear hin hwj hgx
        go_upto_region 17 with (at_lookup; refine wpList_glook_ok (E := sK3) (z := zA3) (f := fun x => if hasK ks x = true then arr3 (fB x) else zA3) (p := hasK ks) (n := 4 * k) (b := mb) (e := 90) rfl _ _ 84 rfl undMapB3 (Tryz.zeroValue90 _) rfl G6.out.map K rfl ?_; show wpList _ _ _ _ (Act.put _ _ (.tuple #[(if hasK ks K = true then arr3 (fB K) else zA3), .bool (hasK ks K)])) _; rw [FV.out, HP.out]; unfold arr3)
        rw [WJ.out, HGX.out]
        obtain ⟨fj, hfj⟩ : ∃ fj, fB = fj := ⟨_, rfl⟩
        rw [hfj] at GJ GC NE3
        try rw [hfj]
        obtain ⟨kj, hkj⟩ : ∃ kj, dedStep ks K = kj := ⟨_, rfl⟩
        have HKJ := hid hkj
        rw [KSJ.out, hkj] at GJ KJ
        clear hfj hkj
        obtain ⟨q0, q1⟩ := RBJ.out _ (Below.refl _ _)
        have HS := hid (fun (W : World) (h : Below wj.heap.size wj W) => And.intro h (RBJ.out W h))
        have KA := hid (fun (W : World) (h : Below wj.heap.size wj W) => KYR.out Y HY.out W (DJ.out.trans (h.mono DJ.out.size)))
        have KB := hid (fun (W : World) (h : Below wj.heap.size wj W) => KYR.out Z HZ.out W (DJ.out.trans (h.mono DJ.out.size)))
        go_wp2_with fail
        go_region_held3 (fun W => Below wj.heap.size wj W ∧ W.cell? ⟨bx, 0, none⟩ = some (.int .i64 rid) ∧ W.cell? ⟨bx, 1, none⟩ = some (.slice vo xs.length vcap))
          (first | exact HS.out _ (below_drewN' (Below.refl _ _) _) | exact HS.out _ (Below.refl _ _).drew | exact HS.out _ (Below.refl _ _) | exact HS.out _ (by assumption))
          (first
            | (go_at_call 30; have hS := And.left ‹Below wj.heap.size wj _ ∧ _ ∧ _›; with_reducible refine (KA.out _ hS).mono ?_; rintro e wa ⟨rfl, hba⟩; have hLa := hS.trans (hba.mono hS.size); clear hba hS)
            | (go_at_call 30; have hS := And.left ‹Below wj.heap.size wj _ ∧ _ ∧ _›; with_reducible refine (KB.out _ hS).mono ?_; rintro e wb ⟨rfl, hbb⟩; have hLb := hS.trans (hbb.mono hS.size); clear hbb hS))
        all_goals
          have LB := hid hLb
          clear hLa hLb q0 q1
          have GQ := hid (show Gps wb.drew mb mb (4 * k + 1) fj kj (colK (T.take k)) from (GJ.out.below LB.out).below (Below.refl _ _).drew)
          obtain ⟨g0, g1, g2⟩ := GC.out wb LB.out
          have hadd := AD.out.2
          have GB := hid (show Box3 wb.drew gx (fj K 0) (fj K 1) (fj K 2) from GC.out wb.drew LB.out.drew)
          have hlt3 : ∀ j, j < 3 → mb ≤ fj K j := fun j hj => (GJ.out.far K KJ.out j hj).1
          have HL2 := hid hlt3
          have NQ := hid (show Below mb w3 wb.drew from (NJ.out.trans (LB.out.mono (by have := GJ.out.map.lt; omega))).drew)
          have FINI : ∀ (W : World) (c : KS → Nat → List KS), Gps W mb mb (4 * k + 1 + 1 + 1 + 1) fj kj c → (∀ (x : KS) (j : Nat), j < 3 → c x j = if K = x then dedStep (colK (T.take k) x j) (sel3 j (k4 m.1 Y Z R)) else colK (T.take k) x j) → Below mb w3 W → Gps W mb mb (4 * (k + 1)) fj (dedK ((T.take (k + 1)).map (·.1))) (colK (T.take (k + 1))) ∧ Below mb w3 W := by
            intro W c hc hcc hbw
            refine ⟨?_, hbw⟩
            rw [KS1.out, HKJ.out]
            refine (hc.mono (by omega)).congr (fun x hx j hj => ?_)
            rw [colK_end TK.out, show (k4 m.1 Y Z R).1 = K from EK.out]
            exact hcc x j hj
          obtain ⟨w0, e0, u0, v0, x0⟩ := GQ.out.upd KJ.out (show 0 < 3 by omega) (by unfold maxLen; omega) (kK R Y) NQ.out (HL2.out 0 (by omega)) (NE3.out 0 (by omega)) GB.out
          have X0 := hid x0
          clear x0
          obtain ⟨g00, g01, g02⟩ := X0.out
          have U0 := hid u0
          have V0 := hid v0
          clear u0 v0
          obtain ⟨w1, e1, u1, v1, x1⟩ := GQ.out.upd KJ.out (show 1 < 3 by omega) (by unfold maxLen; omega) (kK R Z) NQ.out (HL2.out 1 (by omega)) (NE3.out 1 (by omega)) GB.out
          have X1 := hid x1
          clear x1
          obtain ⟨g10, g11, g12⟩ := X1.out
          have U1 := hid u1
          have V1 := hid v1
          clear u1 v1
          obtain ⟨w2, e2, u2, v2, x2⟩ := GQ.out.upd KJ.out (show 2 < 3 by omega) (by unfold maxLen; omega) ((k4 m.1 Y Z R).2.2.2) NQ.out (HL2.out 2 (by omega)) (NE3.out 2 (by omega)) GB.out
          have X2 := hid x2
          clear x2
          obtain ⟨g20, g21, g22⟩ := X2.out
          have U2 := hid u2
          have V2 := hid v2
          clear u2 v2
          obtain ⟨w01, e01, u01, v01, x01⟩ := U0.out.upd KJ.out (show 1 < 3 by omega) (by unfold maxLen; omega) (kK R Z) V0.out (HL2.out 1 (by omega)) (NE3.out 1 (by omega)) X0.out
          have X01 := hid x01
          clear x01
          obtain ⟨g010, g011, g012⟩ := X01.out
          have U01 := hid u01
          have V01 := hid v01
          clear u01 v01
          obtain ⟨w02, e02, u02, v02, x02⟩ := U0.out.upd KJ.out (show 2 < 3 by omega) (by unfold maxLen; omega) ((k4 m.1 Y Z R).2.2.2) V0.out (HL2.out 2 (by omega)) (NE3.out 2 (by omega)) X0.out
          have X02 := hid x02
          clear x02
          obtain ⟨g020, g021, g022⟩ := X02.out
          have U02 := hid u02
          have V02 := hid v02
          clear u02 v02
          obtain ⟨w10, e10, u10, v10, x10⟩ := U1.out.upd KJ.out (show 0 < 3 by omega) (by unfold maxLen; omega) (kK R Y) V1.out (HL2.out 0 (by omega)) (NE3.out 0 (by omega)) X1.out
          have X10 := hid x10
          clear x10
          obtain ⟨g100, g101, g102⟩ := X10.out
          have U10 := hid u10
          have V10 := hid v10
          clear u10 v10
          obtain ⟨w12, e12, u12, v12, x12⟩ := U1.out.upd KJ.out (show 2 < 3 by omega) (by unfold maxLen; omega) ((k4 m.1 Y Z R).2.2.2) V1.out (HL2.out 2 (by omega)) (NE3.out 2 (by omega)) X1.out
          have X12 := hid x12
          clear x12
          obtain ⟨g120, g121, g122⟩ := X12.out
          have U12 := hid u12
          have V12 := hid v12
          clear u12 v12
          obtain ⟨w20, e20, u20, v20, x20⟩ := U2.out.upd KJ.out (show 0 < 3 by omega) (by unfold maxLen; omega) (kK R Y) V2.out (HL2.out 0 (by omega)) (NE3.out 0 (by omega)) X2.out
          have X20 := hid x20
          clear x20
          obtain ⟨g200, g201, g202⟩ := X20.out
          have U20 := hid u20
          have V20 := hid v20
          clear u20 v20
          obtain ⟨w21, e21, u21, v21, x21⟩ := U2.out.upd KJ.out (show 1 < 3 by omega) (by unfold maxLen; omega) (kK R Z) V2.out (HL2.out 1 (by omega)) (NE3.out 1 (by omega)) X2.out
          have X21 := hid x21
          clear x21
          obtain ⟨g210, g211, g212⟩ := X21.out
          have U21 := hid u21
          have V21 := hid v21
          clear u21 v21
          obtain ⟨w012, e012, u012, v012, x012⟩ := U01.out.upd KJ.out (show 2 < 3 by omega) (by unfold maxLen; omega) ((k4 m.1 Y Z R).2.2.2) V01.out (HL2.out 2 (by omega)) (NE3.out 2 (by omega)) X01.out
          obtain ⟨g0120, g0121, g0122⟩ := x012
          have F012 := hid (FINI _ _ u012 (fun x j hj => by
            by_cases e : K = x
            · subst e; rcases (show j = 0 ∨ j = 1 ∨ j = 2 by omega) with rfl | rfl | rfl <;> simp [sel3, k4]
            · simp [Ne.symm e, e]) v012)
          clear u012 v012
          obtain ⟨w021, e021, u021, v021, x021⟩ := U02.out.upd KJ.out (show 1 < 3 by omega) (by unfold maxLen; omega) (kK R Z) V02.out (HL2.out 1 (by omega)) (NE3.out 1 (by omega)) X02.out
          obtain ⟨g0210, g0211, g0212⟩ := x021
          have F021 := hid (FINI _ _ u021 (fun x j hj => by
            by_cases e : K = x
            · subst e; rcases (show j = 0 ∨ j = 1 ∨ j = 2 by omega) with rfl | rfl | rfl <;> simp [sel3, k4]
            · simp [Ne.symm e, e]) v021)
          clear u021 v021
          obtain ⟨w102, e102, u102, v102, x102⟩ := U10.out.upd KJ.out (show 2 < 3 by omega) (by unfold maxLen; omega) ((k4 m.1 Y Z R).2.2.2) V10.out (HL2.out 2 (by omega)) (NE3.out 2 (by omega)) X10.out
          obtain ⟨g1020, g1021, g1022⟩ := x102
          have F102 := hid (FINI _ _ u102 (fun x j hj => by
            by_cases e : K = x
            · subst e; rcases (show j = 0 ∨ j = 1 ∨ j = 2 by omega) with rfl | rfl | rfl <;> simp [sel3, k4]
            · simp [Ne.symm e, e]) v102)
          clear u102 v102
          obtain ⟨w120, e120, u120, v120, x120⟩ := U12.out.upd KJ.out (show 0 < 3 by omega) (by unfold maxLen; omega) (kK R Y) V12.out (HL2.out 0 (by omega)) (NE3.out 0 (by omega)) X12.out
          obtain ⟨g1200, g1201, g1202⟩ := x120
          have F120 := hid (FINI _ _ u120 (fun x j hj => by
            by_cases e : K = x
            · subst e; rcases (show j = 0 ∨ j = 1 ∨ j = 2 by omega) with rfl | rfl | rfl <;> simp [sel3, k4]
            · simp [Ne.symm e, e]) v120)
          clear u120 v120
          obtain ⟨w201, e201, u201, v201, x201⟩ := U20.out.upd KJ.out (show 1 < 3 by omega) (by unfold maxLen; omega) (kK R Z) V20.out (HL2.out 1 (by omega)) (NE3.out 1 (by omega)) X20.out
          obtain ⟨g2010, g2011, g2012⟩ := x201
          have F201 := hid (FINI _ _ u201 (fun x j hj => by
            by_cases e : K = x
            · subst e; rcases (show j = 0 ∨ j = 1 ∨ j = 2 by omega) with rfl | rfl | rfl <;> simp [sel3, k4]
            · simp [Ne.symm e, e]) v201)
          clear u201 v201
          obtain ⟨w210, e210, u210, v210, x210⟩ := U21.out.upd KJ.out (show 0 < 3 by omega) (by unfold maxLen; omega) (kK R Y) V21.out (HL2.out 0 (by omega)) (NE3.out 0 (by omega)) X21.out
          obtain ⟨g2100, g2101, g2102⟩ := x210
          have F210 := hid (FINI _ _ u210 (fun x j hj => by
            by_cases e : K = x
            · subst e; rcases (show j = 0 ∨ j = 1 ∨ j = 2 by omega) with rfl | rfl | rfl <;> simp [sel3, k4]
            · simp [Ne.symm e, e]) v210)
          clear u210 v210
          rw [← AD.out.1] at e2 e02 e12 e012 e102
          clear hlt3 FINI
          go_wp2_with fail
          go_region_law (fail)
          all_goals
            clear g0 g1 g2 g00 g01 g02 g10 g11 g12 g20 g21 g22 g010 g011 g012 g020 g021 g022 g100 g101 g102 g120 g121 g122 g200 g201 g202 g210 g211 g212 g0120 g0121 g0122 g0210 g0211 g0212 g1020 g1021 g1022 g1200 g1201 g1202 g2010 g2011 g2012 g2100 g2101 g2102 hadd e0 e1 e2 e01 e02 e10 e12 e20 e21 e012 e021 e102 e120 e201 e210
            go_wp2_with fail
            go_roundw
            case rel => first | exact ⟨k + 1, fj, by have := HLT.out; omega, by go_num, F012.out.1, F012.out.2⟩ | exact ⟨k + 1, fj, by have := HLT.out; omega, by go_num, F021.out.1, F021.out.2⟩ | exact ⟨k + 1, fj, by have := HLT.out; omega, by go_num, F102.out.1, F102.out.2⟩ | exact ⟨k + 1, fj, by have := HLT.out; omega, by go_num, F120.out.1, F120.out.2⟩ | exact ⟨k + 1, fj, by have := HLT.out; omega, by go_num, F201.out.1, F201.out.2⟩ | exact ⟨k + 1, fj, by have := HLT.out; omega, by go_num, F210.out.1, F210.out.2⟩
            case measure => have := HLT.out; simp [intOf]; omega
      · have HP := hid (hasK_out hin)
        have FV := hid (show (if hasK ks K = true then arr3 (fB K) else zA3) = zA3 from if_neg (by rw [HP.out]; simp))
        have BG := hid (below_alloc w6 (.cells #[.map (some (w6.heap.size + 1)), .map (some (w6.heap.size + 1 + 1)), .map (some (w6.heap.size + 1 + 1 + 1))] 90))
        have ZC := hid (fun (W : World) h => cells3 (w := w6) (a := .map (some (w6.heap.size + 1))) (b := .map (some (w6.heap.size + 1 + 1))) (c := .map (some (w6.heap.size + 1 + 1 + 1))) (t := 90) W h)
        obtain ⟨w7, hw7⟩ : ∃ w7 : World, w6.alloc (.cells #[.map (some (w6.heap.size + 1)), .map (some (w6.heap.size + 1 + 1)), .map (some (w6.heap.size + 1 + 1 + 1))] 90) = w7 := ⟨_, rfl⟩
        have hs7 : w7.heap.size = gx + 1 := by rw [← hw7, ← hgx]; simp
        rw [hw7] at BG ZC
        have W7 := hid hw7
        have BA := hid (below_alloc w7 (.map #[] 0))
        have MA := hid (OwnZ.made sK3 w7)
        have BB := hid (below_alloc (w7.alloc (.map #[] 0)) (.map #[] 0))
        have MB := hid (OwnZ.made sK3 (w7.alloc (.map #[] 0)))
        have BC := hid (below_alloc ((w7.alloc (.map #[] 0)).alloc (.map #[] 0)) (.map #[] 0))
        have MC := hid (OwnZ.made sK3 ((w7.alloc (.map #[] 0)).alloc (.map #[] 0)))
        have za : (w7.alloc (.map #[] 0)).heap.size = gx + 1 + 1 := by simp [hs7]
        have zb : ((w7.alloc (.map #[] 0)).alloc (.map #[] 0)).heap.size = gx + 1 + 1 + 1 := by simp [hs7]
        obtain ⟨w8, hw8⟩ : ∃ w8 : World, ((w7.alloc (.map #[] 0)).alloc (.map #[] 0)).alloc (.map #[] 0) = w8 := ⟨_, rfl⟩
        have B78 := hid (show Below w7.heap.size w7 w8 by rw [← hw8]; exact BA.out.trans ((BB.out.trans (BC.out.mono BB.out.size)).mono BA.out.size))
        have M0 := hid (show OwnZ sK3 w8 (gx + 1) 0 ([] : List KS) by rw [← hw8, ← hs7]; exact (MA.out.below BB.out).below BC.out)
        have M1 := hid (show OwnZ sK3 w8 (gx + 1 + 1) 0 ([] : List KS) by rw [← hw8, ← za]; exact MB.out.below BC.out)
        have M2 := hid (show OwnZ sK3 w8 (gx + 1 + 1 + 1) 0 ([] : List KS) by rw [← hw8, ← zb]; exact MC.out)
        have W8 := hid hw8
        have G8 := hid ((G6.out.below BG.out).below B78.out)
        have S8 := hid (show gx + 4 ≤ w8.heap.size by rw [← hw8]; simp [hs7])
        have LT6 := hid (fun (x : KS) (hx : x ∈ ks) (j : Nat) (hj : j < 3) => show fB x j < gx from by rw [← hgx]; exact G6.out.lt hx hj)
        rw [hgx] at ZC
        obtain ⟨z0, z1, z2⟩ := ZC.out w8 B78.out
        have NIN := hid hin
        have D8 := hid (D6.out.trans ((BG.out.trans (B78.out.mono BG.out.size)).mono D6.out.size))
        have N8 := hid (N6.out.trans ((BG.out.trans (B78.out.mono BG.out.size)).mono (by have := MB6.out; rw [hgx]; omega)))
        have RB8 := hid (fun (W : World) (h : Below w8.heap.size w8 W) => RB6.out W ((BG.out.trans (B78.out.mono BG.out.size)).trans (h.mono (BG.out.trans (B78.out.mono BG.out.size)).size)))
        clear hw7 hw8 hs7 za zb hin hgx
        go_upto_region 16 with (at_lookup; refine wpList_glook_ok (E := sK3) (z := zA3) (f := fun x => if hasK ks x = true then arr3 (fB x) else zA3) (p := hasK ks) (n := 4 * k) (b := mb) (e := 90) rfl _ _ 84 rfl undMapB3 (Tryz.zeroValue90 _) rfl G6.out.map K rfl ?_; show wpList _ _ _ _ (Act.put _ _ (.tuple #[(if hasK ks K = true then arr3 (fB K) else zA3), .bool (hasK ks K)])) _; rw [FV.out, HP.out]; unfold zA3)
        rw [W7.out, W8.out, HGX.out]
        go_upto_region 17 with (at_mapUpdate; refine wpList_gput (E := sK3) (e := 90) (b := mb) (n := 4 * k) (f := fun x => if hasK ks x = true then arr3 (fB x) else zA3) (p := hasK ks) rfl _ _ _ 84 rfl undMapB3 rfl G8.out.map (by unfold maxLen; omega) K (.agg #[.map (some (gx + 1)), .map (some (gx + 1 + 1)), .map (some (gx + 1 + 1 + 1))]) rfl rfl ?_; intro wj hoj hgj)
        obtain ⟨fj, hfj⟩ : ∃ fj : KS → Nat → Nat, (fun x j => if x = K then (if j = 0 then gx + 1 else if j = 1 then gx + 1 + 1 else gx + 1 + 1 + 1) else fB x j) = fj := ⟨_, rfl⟩
        obtain ⟨kj, hkj⟩ : ∃ kj, dedStep ks K = kj := ⟨_, rfl⟩
        have HKJ := hid hkj
        have hka : ks ++ [K] = kj := by rw [← hkj]; unfold dedStep; rw [if_neg NIN.out]
        have GJ := hid (show Gps wj mb mb (4 * k + 1) fj kj (colK (T.take k)) from by
          rw [← hfj, ← hka]
          exact G8.out.add NIN.out (fun j hj => colK_new (fun h => NIN.out ((KMEM.out K).2 h)) j) (M0.out.mono (Nat.zero_le _)) (M1.out.mono (Nat.zero_le _)) (M2.out.mono (Nat.zero_le _)) (by omega) (by omega) (by omega) (fun x hx j hj => by have := LT6.out x hx j hj; omega) (by have := MB6.out; omega) (by have := MB6.out; omega) hoj hgj)
        have KJ := hid (show K ∈ kj by rw [← hka]; simp)
        have gne : ∀ p : Nat, mb < p → some p ≠ some mb := fun p h e => by have := Option.some.inj e; omega
        have f0 : fj K 0 = gx + 1 := by rw [← hfj]; simp
        have f1 : fj K 1 = gx + 1 + 1 := by rw [← hfj]; simp
        have f2 : fj K 2 = gx + 1 + 1 + 1 := by rw [← hfj]; simp
        have NE3 := hid (show ∀ j, j < 3 → gx ≠ fj K j from fun j hj => by
          rcases (show j = 0 ∨ j = 1 ∨ j = 2 by omega) with rfl | rfl | rfl
          · rw [f0]; omega
          · rw [f1]; omega
          · rw [f2]; omega)
        have y0 := (hgj.cell_far ⟨gx, 0, none⟩ (by have := S8.out; simp only; omega) (gne gx MB6.out)).trans z0
        have y1 := (hgj.cell_far ⟨gx, 1, none⟩ (by have := S8.out; simp only; omega) (gne gx MB6.out)).trans z1
        have y2 := (hgj.cell_far ⟨gx, 2, none⟩ (by have := S8.out; simp only; omega) (gne gx MB6.out)).trans z2
        have hgl : gx < wj.heap.size := by have h1 := S8.out; have h2 := hgj.size; omega
        have GC := hid (fun (W : World) (h : Below wj.heap.size wj W) => show W.cell? ⟨gx, 0, none⟩ = some (.map (some (fj K 0))) ∧ W.cell? ⟨gx, 1, none⟩ = some (.map (some (fj K 1))) ∧ W.cell? ⟨gx, 2, none⟩ = some (.map (some (fj K 2))) from by
          rw [f0, f1, f2]
          exact ⟨(h.cell (p := ⟨gx, 0, none⟩) hgl).trans y0, (h.cell (p := ⟨gx, 1, none⟩) hgl).trans y1, (h.cell (p := ⟨gx, 2, none⟩) hgl).trans y2⟩)
        obtain ⟨x0, x1⟩ := RB8.out _ (Below.refl _ _)
        have u0 := (hgj.cell_far ⟨bx, 0, none⟩ (World.block_lt_of_cell? _ _ x0) (gne bx MBX.out)).trans x0
        have u1 := (hgj.cell_far ⟨bx, 1, none⟩ (World.block_lt_of_cell? _ _ x1) (gne bx MBX.out)).trans x1
        have RBJ := hid (fun (W : World) (h : Below wj.heap.size wj W) => show W.cell? ⟨bx, 0, none⟩ = some (.int .i64 rid) ∧ W.cell? ⟨bx, 1, none⟩ = some (.slice vo xs.length vcap) from ⟨(h.cell (p := ⟨bx, 0, none⟩) (World.block_lt_of_cell? _ _ u0)).trans u0, (h.cell (p := ⟨bx, 1, none⟩) (World.block_lt_of_cell? _ _ u1)).trans u1⟩)
        have DJ := hid (D8.out.grown hgj D8.out.size (fun j e => by cases e; exact SM.out))
        have NJ := hid (N8.out.grown hgj (by have h1 := S8.out; have h2 := MB6.out; omega) (fun j e => by cases e; exact Nat.le_refl _))
        clear hoj hgj hfj hkj hka gne f0 f1 f2 y0 y1 y2 hgl x0 x1 u0 u1 z0 z1 z2
        obtain ⟨q0, q1⟩ := RBJ.out _ (Below.refl _ _)
        have HS := hid (fun (W : World) (h : Below wj.heap.size wj W) => And.intro h (RBJ.out W h))
        have KA := hid (fun (W : World) (h : Below wj.heap.size wj W) => KYR.out Y HY.out W (DJ.out.trans (h.mono DJ.out.size)))
        have KB := hid (fun (W : World) (h : Below wj.heap.size wj W) => KYR.out Z HZ.out W (DJ.out.trans (h.mono DJ.out.size)))
        go_wp2_with fail
        go_region_held3 (fun W => Below wj.heap.size wj W ∧ W.cell? ⟨bx, 0, none⟩ = some (.int .i64 rid) ∧ W.cell? ⟨bx, 1, none⟩ = some (.slice vo xs.length vcap))
          (first | exact HS.out _ (below_drewN' (Below.refl _ _) _) | exact HS.out _ (Below.refl _ _).drew | exact HS.out _ (Below.refl _ _) | exact HS.out _ (by assumption))
          (first
            | (go_at_call 30; have hS := And.left ‹Below wj.heap.size wj _ ∧ _ ∧ _›; with_reducible refine (KA.out _ hS).mono ?_; rintro e wa ⟨rfl, hba⟩; have hLa := hS.trans (hba.mono hS.size); clear hba hS)
            | (go_at_call 30; have hS := And.left ‹Below wj.heap.size wj _ ∧ _ ∧ _›; with_reducible refine (KB.out _ hS).mono ?_; rintro e wb ⟨rfl, hbb⟩; have hLb := hS.trans (hbb.mono hS.size); clear hbb hS))
        all_goals
          have LB := hid hLb
          clear hLa hLb q0 q1
          have GQ := hid (show Gps wb.drew mb mb (4 * k + 1) fj kj (colK (T.take k)) from (GJ.out.below LB.out).below (Below.refl _ _).drew)
          obtain ⟨g0, g1, g2⟩ := GC.out wb LB.out
          have hadd := AD.out.2
          have GB := hid (show Box3 wb.drew gx (fj K 0) (fj K 1) (fj K 2) from GC.out wb.drew LB.out.drew)
          have hlt3 : ∀ j, j < 3 → mb ≤ fj K j := fun j hj => (GJ.out.far K KJ.out j hj).1
          have HL2 := hid hlt3
          have NQ := hid (show Below mb w3 wb.drew from (NJ.out.trans (LB.out.mono (by have := GJ.out.map.lt; omega))).drew)
          have FINI : ∀ (W : World) (c : KS → Nat → List KS), Gps W mb mb (4 * k + 1 + 1 + 1 + 1) fj kj c → (∀ (x : KS) (j : Nat), j < 3 → c x j = if K = x then dedStep (colK (T.take k) x j) (sel3 j (k4 m.1 Y Z R)) else colK (T.take k) x j) → Below mb w3 W → Gps W mb mb (4 * (k + 1)) fj (dedK ((T.take (k + 1)).map (·.1))) (colK (T.take (k + 1))) ∧ Below mb w3 W := by
            intro W c hc hcc hbw
            refine ⟨?_, hbw⟩
            rw [KS1.out, HKJ.out]
            refine (hc.mono (by omega)).congr (fun x hx j hj => ?_)
            rw [colK_end TK.out, show (k4 m.1 Y Z R).1 = K from EK.out]
            exact hcc x j hj
          obtain ⟨w0, e0, u0, v0, x0⟩ := GQ.out.upd KJ.out (show 0 < 3 by omega) (by unfold maxLen; omega) (kK R Y) NQ.out (HL2.out 0 (by omega)) (NE3.out 0 (by omega)) GB.out
          have X0 := hid x0
          clear x0
          obtain ⟨g00, g01, g02⟩ := X0.out
          have U0 := hid u0
          have V0 := hid v0
          clear u0 v0
          obtain ⟨w1, e1, u1, v1, x1⟩ := GQ.out.upd KJ.out (show 1 < 3 by omega) (by unfold maxLen; omega) (kK R Z) NQ.out (HL2.out 1 (by omega)) (NE3.out 1 (by omega)) GB.out
          have X1 := hid x1
          clear x1
          obtain ⟨g10, g11, g12⟩ := X1.out
          have U1 := hid u1
          have V1 := hid v1
          clear u1 v1
          obtain ⟨w2, e2, u2, v2, x2⟩ := GQ.out.upd KJ.out (show 2 < 3 by omega) (by unfold maxLen; omega) ((k4 m.1 Y Z R).2.2.2) NQ.out (HL2.out 2 (by omega)) (NE3.out 2 (by omega)) GB.out
          have X2 := hid x2
          clear x2
          obtain ⟨g20, g21, g22⟩ := X2.out
          have U2 := hid u2
          have V2 := hid v2
          clear u2 v2
          obtain ⟨w01, e01, u01, v01, x01⟩ := U0.out.upd KJ.out (show 1 < 3 by omega) (by unfold maxLen; omega) (kK R Z) V0.out (HL2.out 1 (by omega)) (NE3.out 1 (by omega)) X0.out
          have X01 := hid x01
          clear x01
          obtain ⟨g010, g011, g012⟩ := X01.out
          have U01 := hid u01
          have V01 := hid v01
          clear u01 v01
          obtain ⟨w02, e02, u02, v02, x02⟩ := U0.out.upd KJ.out (show 2 < 3 by omega) (by unfold maxLen; omega) ((k4 m.1 Y Z R).2.2.2) V0.out (HL2.out 2 (by omega)) (NE3.out 2 (by omega)) X0.out
          have X02 := hid x02
          clear x02
          obtain ⟨g020, g021, g022⟩ := X02.out
          have U02 := hid u02
          have V02 := hid v02
          clear u02 v02
          obtain ⟨w10, e10, u10, v10, x10⟩ := U1.out.upd KJ.out (show 0 < 3 by omega) (by unfold maxLen; omega) (kK R Y) V1.out (HL2.out 0 (by omega)) (NE3.out 0 (by omega)) X1.out
          have X10 := hid x10
          clear x10
          obtain ⟨g100, g101, g102⟩ := X10.out
          have U10 := hid u10
          have V10 := hid v10
          clear u10 v10
          obtain ⟨w12, e12, u12, v12, x12⟩ := U1.out.upd KJ.out (show 2 < 3 by omega) (by unfold maxLen; omega) ((k4 m.1 Y Z R).2.2.2) V1.out (HL2.out 2 (by omega)) (NE3.out 2 (by omega)) X1.out
          have X12 := hid x12
          clear x12
          obtain ⟨g120, g121, g122⟩ := X12.out
          have U12 := hid u12
          have V12 := hid v12
          clear u12 v12
          obtain ⟨w20, e20, u20, v20, x20⟩ := U2.out.upd KJ.out (show 0 < 3 by omega) (by unfold maxLen; omega) (kK R Y) V2.out (HL2.out 0 (by omega)) (NE3.out 0 (by omega)) X2.out
          have X20 := hid x20
          clear x20
          obtain ⟨g200, g201, g202⟩ := X20.out
          have U20 := hid u20
          have V20 := hid v20
          clear u20 v20
          obtain ⟨w21, e21, u21, v21, x21⟩ := U2.out.upd KJ.out (show 1 < 3 by omega) (by unfold maxLen; omega) (kK R Z) V2.out (HL2.out 1 (by omega)) (NE3.out 1 (by omega)) X2.out
          have X21 := hid x21
          clear x21
          obtain ⟨g210, g211, g212⟩ := X21.out
          have U21 := hid u21
          have V21 := hid v21
          clear u21 v21
          obtain ⟨w012, e012, u012, v012, x012⟩ := U01.out.upd KJ.out (show 2 < 3 by omega) (by unfold maxLen; omega) ((k4 m.1 Y Z R).2.2.2) V01.out (HL2.out 2 (by omega)) (NE3.out 2 (by omega)) X01.out
          obtain ⟨g0120, g0121, g0122⟩ := x012
          have F012 := hid (FINI _ _ u012 (fun x j hj => by
            by_cases e : K = x
            · subst e; rcases (show j = 0 ∨ j = 1 ∨ j = 2 by omega) with rfl | rfl | rfl <;> simp [sel3, k4]
            · simp [Ne.symm e, e]) v012)
          clear u012 v012
          obtain ⟨w021, e021, u021, v021, x021⟩ := U02.out.upd KJ.out (show 1 < 3 by omega) (by unfold maxLen; omega) (kK R Z) V02.out (HL2.out 1 (by omega)) (NE3.out 1 (by omega)) X02.out
          obtain ⟨g0210, g0211, g0212⟩ := x021
          have F021 := hid (FINI _ _ u021 (fun x j hj => by
            by_cases e : K = x
            · subst e; rcases (show j = 0 ∨ j = 1 ∨ j = 2 by omega) with rfl | rfl | rfl <;> simp [sel3, k4]
            · simp [Ne.symm e, e]) v021)
          clear u021 v021
          obtain ⟨w102, e102, u102, v102, x102⟩ := U10.out.upd KJ.out (show 2 < 3 by omega) (by unfold maxLen; omega) ((k4 m.1 Y Z R).2.2.2) V10.out (HL2.out 2 (by omega)) (NE3.out 2 (by omega)) X10.out
          obtain ⟨g1020, g1021, g1022⟩ := x102
          have F102 := hid (FINI _ _ u102 (fun x j hj => by
            by_cases e : K = x
            · subst e; rcases (show j = 0 ∨ j = 1 ∨ j = 2 by omega) with rfl | rfl | rfl <;> simp [sel3, k4]
            · simp [Ne.symm e, e]) v102)
          clear u102 v102
          obtain ⟨w120, e120, u120, v120, x120⟩ := U12.out.upd KJ.out (show 0 < 3 by omega) (by unfold maxLen; omega) (kK R Y) V12.out (HL2.out 0 (by omega)) (NE3.out 0 (by omega)) X12.out
          obtain ⟨g1200, g1201, g1202⟩ := x120
          have F120 := hid (FINI _ _ u120 (fun x j hj => by
            by_cases e : K = x
            · subst e; rcases (show j = 0 ∨ j = 1 ∨ j = 2 by omega) with rfl | rfl | rfl <;> simp [sel3, k4]
            · simp [Ne.symm e, e]) v120)
          clear u120 v120
          obtain ⟨w201, e201, u201, v201, x201⟩ := U20.out.upd KJ.out (show 1 < 3 by omega) (by unfold maxLen; omega) (kK R Z) V20.out (HL2.out 1 (by omega)) (NE3.out 1 (by omega)) X20.out
          obtain ⟨g2010, g2011, g2012⟩ := x201
          have F201 := hid (FINI _ _ u201 (fun x j hj => by
            by_cases e : K = x
            · subst e; rcases (show j = 0 ∨ j = 1 ∨ j = 2 by omega) with rfl | rfl | rfl <;> simp [sel3, k4]
            · simp [Ne.symm e, e]) v201)
          clear u201 v201
          obtain ⟨w210, e210, u210, v210, x210⟩ := U21.out.upd KJ.out (show 0 < 3 by omega) (by unfold maxLen; omega) (kK R Y) V21.out (HL2.out 0 (by omega)) (NE3.out 0 (by omega)) X21.out
          obtain ⟨g2100, g2101, g2102⟩ := x210
          have F210 := hid (FINI _ _ u210 (fun x j hj => by
            by_cases e : K = x
            · subst e; rcases (show j = 0 ∨ j = 1 ∨ j = 2 by omega) with rfl | rfl | rfl <;> simp [sel3, k4]
            · simp [Ne.symm e, e]) v210)
          clear u210 v210
          rw [← AD.out.1] at e2 e02 e12 e012 e102
          clear hlt3 FINI
          go_wp2_with fail
          go_region_law (fail)
          all_goals
            clear g0 g1 g2 g00 g01 g02 g10 g11 g12 g20 g21 g22 g010 g011 g012 g020 g021 g022 g100 g101 g102 g120 g121 g122 g200 g201 g202 g210 g211 g212 g0120 g0121 g0122 g0210 g0211 g0212 g1020 g1021 g1022 g1200 g1201 g1202 g2010 g2011 g2012 g2100 g2101 g2102 hadd e0 e1 e2 e01 e02 e10 e12 e20 e21 e012 e021 e102 e120 e201 e210
            go_wp2_with fail
            go_roundw
            case rel => first | exact ⟨k + 1, fj, by have := HLT.out; omega, by go_num, F012.out.1, F012.out.2⟩ | exact ⟨k + 1, fj, by have := HLT.out; omega, by go_num, F021.out.1, F021.out.2⟩ | exact ⟨k + 1, fj, by have := HLT.out; omega, by go_num, F102.out.1, F102.out.2⟩ | exact ⟨k + 1, fj, by have := HLT.out; omega, by go_num, F120.out.1, F120.out.2⟩ | exact ⟨k + 1, fj, by have := HLT.out; omega, by go_num, F201.out.1, F201.out.2⟩ | exact ⟨k + 1, fj, by have := HLT.out; omega, by go_num, F210.out.1, F210.out.2⟩
            case measure => have := HLT.out; simp [intOf]; omega
    · have GE := hid (show Gps wr mb mb (4 * k) fB (dedK (T.map (·.1))) (colK T) from by
        have e := take_all (xs := T) (k := k) (by rw [TL.out]; exact hlt)
        rw [e] at hgp
        exact hgp)
      have ZL := hid (fun (x : KS) (j : Nat) => show (colK T x j).length ≤ 200 from by have h1 := colK_le T x j; have h2 := TL.out; have h3 := RL.out; omega)
      have MT := hid (mvdT_eq T)
      obtain ⟨kt, hkt⟩ : ∃ kt, dedK (T.map (·.1)) = kt := ⟨_, rfl⟩
      rw [hkt] at GE MT
      have K4N := hid (show 4 * k ≤ 800 by have := RL.out; omega)
      obtain ⟨fm, hfm⟩ : ∃ fm : KS → Value, (fun x => if hasK kt x = true then arr3 (fB x) else zA3) = fm := ⟨_, rfl⟩
      have FM := hid (fun (x : KS) (h : x ∈ kt) => show fm x = arr3 (fB x) from by rw [← hfm]; exact if_pos (hasK_in h))
      have GM := hid (show OwnG sK3 zA3 wr mb (4 * k) fm (hasK kt) from by rw [← hfm]; exact GE.out.map)
      clear hgp hnx hk hkt hfm
      go_wp2_with (at_range; refine wpList_grange (E := sK3) (z := zA3) (f := fm) (p := hasK kt) (n := 4 * k) (b := mb) rfl _ 84 rfl undMapB3 rfl GM.out ?_; intro wn cnt hrg hcn hbn hsn)
      obtain ⟨r0, hr0⟩ : ∃ r0, wr.heap.size = r0 := ⟨_, rfl⟩
      rw [hr0] at hrg
      have GN := hid (GE.out.below hbn)
      have DN := hid (DR.out.trans (hbn.mono DR.out.size))
      have RG := hid hrg
      have SN := hid (show r0 + 1 ≤ wn.heap.size by omega)
      have S0 := hid (show w0.heap.size ≤ r0 by rw [← hr0]; exact DR.out.size)
      have MR0 := hid (show mb < r0 by rw [← hr0]; exact GE.out.map.lt)
      have LR0 := hid (fun (x : KS) (h : x ∈ kt) (j : Nat) (hj : j < 3) => show fB x j < r0 from by rw [← hr0]; exact GE.out.lt h hj)
      try rw [hr0]
      go_frame
      clear hrg hbn hsn hcn hr0
      go_loopw [] (fun ws => ∃ (left : KS → Bool) (cnt : Nat), RngG sK3 zA3 ws mb r0 (4 * k) fm (hasK kt) left cnt ∧ Gps ws mb mb (4 * k) fB kt (colK T) ∧ Hid (∀ x ∈ kt, left x = false → goodK T x = true) ∧ Below w0.heap.size w0 ws ∧ r0 + 1 ≤ ws.heap.size) (fun ws => ws.rangeLeft mb r0)
      case atStart => exact ⟨_, cnt, RG.out, GN.out, hid (fun x hx e => by rw [hasK_in hx] at e; cases e), DN.out, SN.out⟩
      case round =>
        obtain ⟨left, cnt1, hrg, hgp, HGD, hbw, hsz⟩ := hrel
        have hLE := hid hrg.left_eq
        have GW := hid hgp
        have BW := hid hbw
        have SZ := hid hsz
        clear hgp hbw hsz
        go_upto_region 23 with (at_next; refine wpList_gnext (E := sK3) (z := zA3) (f := fm) (p := hasK kt) (n := 4 * k) (b := mb) rfl _ rfl (str_inv undStrB3) rfl hrg (fun hc0 hl0 => ?_) (fun s w4 cnt2 hls hps hrg4 hlt hg4 hs4 hen => ?_); rotate_left; (rw [FM.out s (hasK_mem hps)] at hen ⊢; unfold arr3 at hen ⊢); rotate_left)
        · skip
          have HT := hid (show mvdT T = true from by
            rw [MT.out, List.all_eq_true]
            exact fun x hx => HGD.out x hx (hl0 x))
          have BF := hid (show Below w.heap.size w wr from B0.out.trans (BW.out.mono B0.out.size))
          clear hl0 hrg hLE hc0
          go_wp2_with fail
          go_ret2
          exact ⟨by rw [HT.out]; rfl, BF.out⟩
        · skip
          have SK := hid (hasK_mem hps)
          have G4 := hid (GW.out.kept hg4 (fun j e => by cases e; exact ⟨by have := MR0.out; omega, fun x hx i hi => by have := LR0.out x hx i hi; omega⟩))
          have B4 := hid (BW.out.grown hg4 BW.out.size (fun j e => by cases e; exact S0.out))
          have S4 := hid (show r0 + 1 ≤ w4.heap.size by have := SZ.out; omega)
          have R4 := hid hrg4
          have MS := hid (show wr.rangeLeft mb r0 = cnt1 ∧ cnt2 < cnt1 from ⟨hLE.out, hlt⟩)
          have BG := hid (below_alloc w4 (.cells #[.map (some (fB s 0)), .map (some (fB s 1)), .map (some (fB s 2))] 90))
          have GC := hid (fun (W : World) h => cells3 (w := w4) (a := .map (some (fB s 0))) (b := .map (some (fB s 1))) (c := .map (some (fB s 2))) (t := 90) W h)
          obtain ⟨w5, hw5⟩ : ∃ w5 : World, w4.alloc (.cells #[.map (some (fB s 0)), .map (some (fB s 1)), .map (some (fB s 2))] 90) = w5 := ⟨_, rfl⟩
          rw [hw5] at BG GC
          have W5 := hid hw5
          obtain ⟨gx, hgx⟩ : ∃ gx, wr.heap.size = gx := ⟨_, rfl⟩
          rw [hs4, hgx] at GC
          have HGX := hid hgx
          have G5 := hid (G4.out.below BG.out)
          have R5 := hid (R4.out.below BG.out)
          have B5 := hid (B4.out.trans (BG.out.mono B4.out.size))
          have S5 := hid (show r0 + 1 ≤ w5.heap.size by have h1 := S4.out; have h2 := BG.out.size; omega)
          have Z0 := hid (G5.out.inn s SK.out 0 (by omega))
          have Z1 := hid (G5.out.inn s SK.out 1 (by omega))
          have Z2 := hid (G5.out.inn s SK.out 2 (by omega))
          have L0 := hid (ZL.out s 0)
          have L1 := hid (ZL.out s 1)
          have L2 := hid (ZL.out s 2)
          have GK := hid (show goodK T s = decide ((colK T s 0).length * (colK T s 1).length = (colK T s 2).length) from rfl)
          clear hrg hrg4 hlt hg4 hs4 hLE hw5 hgx
          rw [W5.out, HGX.out]
          obtain ⟨g0, g1, g2⟩ := GC.out _ (Below.refl _ _)
          clear hen
          obtain ⟨l0, hl0⟩ : ∃ l0, (colK T s 0).length = l0 := ⟨_, rfl⟩
          obtain ⟨l1, hl1⟩ : ∃ l1, (colK T s 1).length = l1 := ⟨_, rfl⟩
          obtain ⟨l2, hl2⟩ : ∃ l2, (colK T s 2).length = l2 := ⟨_, rfl⟩
          rw [hl0, hl1, hl2] at GK
          rw [hl0] at L0
          rw [hl1] at L1
          rw [hl2] at L2
          have HL0 := hid hl0
          have HL1 := hid hl1
          have HL2 := hid hl2
          have hp : l0 * l1 ≤ 40000 := Nat.le_trans (Nat.mul_le_mul L0.out L1.out) (by decide)
          have p0 : (0 : Int) ≤ (l0 : Int) * (l1 : Int) := by rw [← Int.natCast_mul]; omega
          have p1 : (l0 : Int) * (l1 : Int) ≤ 40000 := by rw [← Int.natCast_mul]; omega
          clear hl0 hl1 hl2 hp
          by_cases hgd : goodK T s = true
          · have hcmp : ((l0 : Int) * (l1 : Int) != (l2 : Int)) = false := by
              rw [GK.out, decide_eq_true_iff] at hgd
              rw [← hgd, Int.natCast_mul, bne_self_eq_false]
            have HGO := hid hgd
            clear hgd
            go_wp2_with (first | (at_len; refine wpList_zlen (E := sK3) (b := fB s 0) (n := 4 * k) rfl _ 89 rfl undMapB1 rfl Z0.out ?_; rw [HL0.out]) | (at_len; refine wpList_zlen (E := sK3) (b := fB s 1) (n := 4 * k) rfl _ 89 rfl undMapB1 rfl Z1.out ?_; rw [HL1.out]) | (at_len; refine wpList_zlen (E := sK3) (b := fB s 2) (n := 4 * k) rfl _ 89 rfl undMapB1 rfl Z2.out ?_; rw [HL2.out]))
            have GL := hid (show ∀ x ∈ kt, (left x && !decide (x = s)) = false → goodK T x = true from fun x hx e => by
              by_cases h : x = s
              · rw [h]; exact HGO.out
              · exact HGD.out x hx (by simpa [h] using e))
            refine ⟨⟨_, cnt2, R5.out, G5.out, GL, B5.out, S5.out⟩, ?_⟩
            rw [MS.out.1, R5.out.left_eq]
            exact MS.out.2
          · have hcmp : ((l0 : Int) * (l1 : Int) != (l2 : Int)) = true := by
              rw [GK.out, decide_eq_true_iff] at hgd
              rw [← Int.natCast_mul, bne_iff_ne]
              omega
            have HBD := hid (show mvdT T = false from by
              rw [MT.out]
              cases h : kt.all (goodK T) with
              | false => rfl
              | true => exact absurd (List.all_eq_true.1 h s SK.out) hgd)
            clear hgd
            go_wp2_with (first | (at_len; refine wpList_zlen (E := sK3) (b := fB s 0) (n := 4 * k) rfl _ 89 rfl undMapB1 rfl Z0.out ?_; rw [HL0.out]) | (at_len; refine wpList_zlen (E := sK3) (b := fB s 1) (n := 4 * k) rfl _ 89 rfl undMapB1 rfl Z1.out ?_; rw [HL1.out]) | (at_len; refine wpList_zlen (E := sK3) (b := fB s 2) (n := 4 * k) rfl _ 89 rfl undMapB1 rfl Z2.out ?_; rw [HL2.out]))
            have BF := hid (B0.out.trans (B5.out.mono B0.out.size))
            go_ret2
            exact ⟨by rw [HBD.out]; rfl, BF.out⟩

end Go.Proofs.YtcfcmalaabmceaaGreatDoor


/- The walk of basis.Close and basis.ImpliesFD. -/
namespace Go.Proofs.YtcfcmalaabmceaaGreatDoor
open Go.RowKit
set_option linter.unusedVariables false
set_option linter.unusedSimpArgs false

/-- A dependency that determines an attribute of b from elsewhere. -/
def closQ (b : S) (f : F) : Bool := (f.2 &&& ~~~ f.1) &&& b != 0#32
/-- A block that is closed over. -/
def closR (fs : List F) (b : S) : Bool := decide (pop b = 1) && fs.any (closQ b)
def closB (fs : List F) (ys : List S) (x : S) : S := ys.foldl (fun r b => if closR fs b = true then r ||| b else r) x
theorem closB_snoc (fs : List F) (ys : List S) (x b : S) : closB fs (ys ++ [b]) x = if closR fs b = true then closB fs ys x ||| b else closB fs ys x := by
  unfold closB
  simp only [List.foldl_append, List.foldl_cons, List.foldl_nil]

theorem bclos_any (b : S) (p : Nat) (f : F) (w : World) (hc : w.cell? ⟨p, 0, none⟩ = some (.int .u32 (iv b))) :
    Calls Tryz.prog 48 (#[.agg #[.int .u32 (iv f.1), .int .u32 (iv f.2)]] ++ #[.pointer (some ⟨p, 0, none⟩)]) w fun e w' => e = .returned (.bool (closQ b f)) ∧ Below w.heap.size w w' := by
  show Calls Tryz.prog 48 #[.agg #[.int .u32 (iv f.1), .int .u32 (iv f.2)], .pointer (some ⟨p, 0, none⟩)] w _
  have hb := below_alloc w (.cells #[.int .u32 (iv f.1), .int .u32 (iv f.2)] 49)
  obtain ⟨c0, c1⟩ := cells2 (w := w) (a := .int .u32 (iv f.1)) (b := .int .u32 (iv f.2)) (t := 49) _ (Below.refl _ _)
  have hc' := (hb.cell (p := ⟨p, 0, none⟩) (World.block_lt_of_cell? _ _ hc)).trans hc
  have HB := hid hb
  have HQ := hid (show closQ b f = ((f.2 &&& ~~~ f.1) &&& b != 0#32) from rfl)
  clear hc hb
  go_enter Tryz.func48, Tryz.ntmps48
  go_wp2_with fail
  go_ret
  exact ⟨ret_bool HQ.out.symm, HB.out⟩
def FxPost (p : F → Bool) (xs : List F) (w : World) (e : Ending) (w' : World) : Prop :=
  Below w.heap.size w w' ∧ ((e = .returned (.int .i64 (-1)) ∧ xs.any p = false) ∨ ∃ k : Nat, e = .returned (.int .i64 (k : Int)) ∧ xs.any p = true)
theorem indexFB_any (st : S) (b : Nat) (xs : List F) (v : Value) (w : World) (hv : RdF w v xs) (hc : w.cell? ⟨b, 0, none⟩ = some (.int .u32 (iv st))) :
    Calls Tryz.prog 69 #[v, .func (.func 48) #[] #[.pointer (some ⟨b, 0, none⟩)]] w (FxPost (closQ st) xs w) := by
  obtain ⟨ao, cap, rfl, hl, hd⟩ := RdF.split hv
  have HD := hid hd
  have hbl := World.block_lt_of_cell? _ _ hc
  have F2 := hid (fun (x : F) (W : World) (h : Below w.heap.size w W) => bclos_any st b x W ((h.cell (p := ⟨b, 0, none⟩) hbl).trans hc))
  have eg := enters _ _ _ Tryz.func48 (by kernel_rfl) rfl
  clear hd hv hc hbl
  go_enter Tryz.func69, Tryz.ntmps69
  go_wp2_with fail
  go_loopw [8] (fun i wr => ∃ k : Nat, k ≤ xs.length ∧ i = .int .i64 k ∧ Hid ((xs.take k).any (closQ st) = false) ∧ Below w.heap.size w wr) (fun i _ => xs.length - (intOf i).toNat)
  case atStart => exact ⟨0, Nat.zero_le _, rfl, hid rfl, Below.refl _ _⟩
  case round =>
    obtain ⟨k, hk, rfl, H, hnx⟩ := hrel
    have hsz := hnx.size
    by_cases hlt : k < xs.length
    · obtain ⟨x, hx⟩ := get_some hlt
      obtain ⟨b', off, rfl, h1⟩ := HD.out k x hx
      obtain ⟨e0, e1⟩ := h1 wr hnx
      have C1 := hid (F2.out x wr hnx)
      have NX := hid hnx
      have TN := hid (take_next hx)
      have MX := hid (List.mem_of_getElem? hx)
      clear h1 hx hnx
      cases hq : closQ st x with
      | true =>
        rw [hq] at C1
        have AN := hid (show xs.any (closQ st) = true from List.any_eq_true.2 ⟨x, MX.out, hq⟩)
        clear hq
        go_wp2_with fail
        refine C1.out.mono ?_
        rintro e w2 ⟨rfl, hb2⟩
        have B2 := hid (NX.out.trans (hb2.mono hsz))
        clear hb2
        go_wp2_with fail
        go_ret
        exact ⟨B2.out, .inr ⟨k, rfl, AN.out⟩⟩
      | false =>
        rw [hq] at C1
        have AN := hid (show (xs.take (k + 1)).any (closQ st) = false by rw [TN.out, List.any_append, H.out]; simp [hq])
        clear hq
        go_wp2_with fail
        refine C1.out.mono ?_
        rintro e w2 ⟨rfl, hb2⟩
        have B2 := hid (NX.out.trans (hb2.mono hsz))
        clear hb2
        go_wp2_with fail
        go_roundw
        case rel => exact ⟨k + 1, by omega, by go_num, AN, B2.out⟩
        case measure => simp [intOf]; omega
    · have AN := hid (show xs.any (closQ st) = false by have h := H.out; rwa [List.take_of_length_le (by omega)] at h)
      have NX := hid hnx
      clear hnx
      go_wp2_with fail
      go_ret
      exact ⟨NX.out, .inl ⟨rfl, AN.out⟩⟩
theorem containsFB_any (st : S) (b : Nat) (xs : List F) (v : Value) (w : World) (hv : RdF w v xs) (hc : w.cell? ⟨b, 0, none⟩ = some (.int .u32 (iv st))) :
    Calls Tryz.prog 47 #[v, .func (.func 48) #[] #[.pointer (some ⟨b, 0, none⟩)]] w fun e w' => e = .returned (.bool (xs.any (closQ st))) ∧ Below w.heap.size w w' := by
  have IX := hid (indexFB_any st b xs v w hv hc)
  obtain ⟨ao, cap, rfl, -⟩ := RdF.split hv
  obtain ⟨R, hR⟩ : ∃ R, xs.any (closQ st) = R := ⟨_, rfl⟩
  rw [hR]
  have HR := hid hR
  clear hv hc hR
  go_enter Tryz.func47, Tryz.ntmps47
  go_wp2_with fail
  refine IX.out.mono ?_
  rintro e w2 ⟨hb2, ⟨rfl, ha⟩ | ⟨k, rfl, ha⟩⟩
  · have B2 := hid hb2
    have RF := hid (show R = false by rw [← HR.out]; exact ha)
    clear hb2 ha
    go_wp2_with fail
    go_ret
    exact ⟨by rw [RF.out]; rfl, B2.out⟩
  · have B2 := hid hb2
    have RF := hid (show R = true by rw [← HR.out]; exact ha)
    have k0 : (0 : Int) ≤ (k : Int) := by omega
    have k1 : decide ((k : Int) ≥ 0) = true := by simp
    clear hb2 ha
    go_wp2_with fail
    go_ret
    exact ⟨by rw [RF.out]; first | rfl | simp, B2.out⟩

set_option maxHeartbeats 3200000 in
set_option maxRecDepth 100000 in
theorem bclose_any (n : Nat) (fs gs : List F) (x : S) (v u : Value) (w : World) (hT : Tab w) (hv : RdF w v fs) (hu : RdF w u gs) (hn : n ≤ 16) (hval : validF (n : Int) fs = 0) (hfl : fs.length ≤ 64) (hl : gs.length ≤ 64) (hg : ∀ m ∈ gs, (m.1 ||| m.2) >>> n = 0#32) (hs : x >>> n = 0#32) :
    Calls Tryz.prog 24 #[.int .i64 (n : Int), v, u, .int .u32 (iv x)] w fun e w' => ∃ ys, BlkR n (allM fs gs) x ys ∧ e = .returned (.tuple #[.int .u32 (iv (closB fs ys x)), .int .i64 0]) ∧ Below w.heap.size w w' := by
  have ML := hid (allM_len fs gs hfl hl)
  have CK := hid (basCk_any n fs gs v u x w hv hu hn hval hl hg hs)
  have AL := hid (fun (W : World) (h : Below w.heap.size w W) => show Calls Tryz.prog 26 #[v, u] W fun e w' => ∃ v', e = .returned v' ∧ w'.ownsRow W.heap.size 51 2 v' (allM fs gs).length ((allM fs gs).flatMap cF) ∧ Below W.heap.size W w' from ball_any fs gs v u W (hT.below h) (RdC.below hv h) (RdC.below hu h) (by omega) (by omega))
  have BL := hid (fun (y : Value) (W : World) (h : RdF W y (allM fs gs)) => bblocks_any n (allM fs gs) y x W h (by omega) ML.out)
  obtain ⟨ms, hms⟩ : ∃ ms, allM fs gs = ms := ⟨_, rfl⟩
  rw [hms] at ML AL BL ⊢
  have HV := hid hv
  have SZ := hid (fun (s : S) (W : World) => asize_any s W)
  obtain ⟨vo, vcap, rfl, -⟩ := hv
  obtain ⟨uo, ucap, rfl, -⟩ := hu
  have n0 : (0 : Int) ≤ (n : Int) := by omega
  have n1 : (n : Int) ≤ 16 := by omega
  clear hT hn hval hfl hl hg hs hms
  go_enter Tryz.func24, Tryz.ntmps24
  go_wp2_with fail
  refine CK.out.mono ?_
  rintro e w1 ⟨rfl, hb1⟩
  have D1 := hid hb1
  clear hb1
  go_wp2_with fail
  refine (AL.out _ D1.out).mono ?_
  rintro e w2 ⟨v2, rfl, ho2, hb2⟩
  have D2 := hid (D1.out.trans (hb2.mono D1.out.size))
  have R2 := hid (show RdF w2 v2 ms from RdC.of_owns cF_length ho2 (by have := ML.out; omega))
  obtain ⟨ao, acap, rfl, -⟩ := R2.out
  clear hb2 ho2
  go_wp2_with fail
  refine (BL.out _ _ R2.out).mono ?_
  rintro e w3 ⟨v3, ys, rfl, ho3, hyr, hyl, hb3⟩
  have D3 := hid (D2.out.trans (hb3.mono D2.out.size))
  have RY := hid (RdE.of_owns ho3 (by omega))
  have YR := hid hyr
  obtain ⟨yo, ycap, rfl, -, hyc⟩ := RY.out.split
  have YC := hid hyc
  have yl : (ys.length : Int) ≤ 32 := by omega
  clear hb3 ho3 hyr hyl hyc
  go_wp2_with fail
  go_loopw [11, 30] (fun y i wr => ∃ k : Nat, k ≤ ys.length ∧ i = .int .i64 (k : Int) ∧ y = .int .u32 (iv (closB fs (ys.take k) x)) ∧ Below w3.heap.size w3 wr) (fun _ i _ => ys.length - (intOf i).toNat)
  case atStart => exact ⟨0, Nat.zero_le _, rfl, rfl, Below.refl _ _⟩
  case round =>
    obtain ⟨k, hk, rfl, rfl, hnx⟩ := hrel
    have k0 : (0 : Int) ≤ (k : Int) := by omega
    have NX := hid hnx
    by_cases hlt : k < ys.length
    · have hltI : (k : Int) < (ys.length : Int) := by omega
      obtain ⟨b, hb⟩ := get_some hlt
      obtain ⟨yb, yoff, rfl, hyd⟩ := YC.out k b hb
      have e0 := hyd wr hnx
      unfold enc at e0
      have TK := hid (show closB fs (ys.take (k + 1)) x = if closR fs b = true then closB fs (ys.take k) x ||| b else closB fs (ys.take k) x by rw [take_next hb, closB_snoc])
      have HLT := hid hlt
      obtain ⟨acc, hacc⟩ : ∃ acc, closB fs (ys.take k) x = acc := ⟨_, rfl⟩
      rw [hacc] at TK ⊢
      have BX := hid (below_alloc wr (.cells #[.int .u32 (iv b)] 47))
      have c0 : (wr.alloc (.cells #[.int .u32 (iv b)] 47)).cell? ⟨wr.heap.size, 0, none⟩ = some (.int .u32 (iv b)) := by simp
      obtain ⟨w4, hw4⟩ : ∃ w4 : World, wr.alloc (.cells #[.int .u32 (iv b)] 47) = w4 := ⟨_, rfl⟩
      rw [hw4] at BX c0
      obtain ⟨bx, hbx⟩ : ∃ bx, wr.heap.size = bx := ⟨_, rfl⟩
      rw [hbx] at c0
      have HBX := hid hbx
      have W4 := hid hw4
      have D4 := hid (NX.out.trans (BX.out.mono NX.out.size))
      have CB := hid (fun (W : World) (h : Below w4.heap.size w4 W) => show W.cell? ⟨bx, 0, none⟩ = some (.int .u32 (iv b)) from (h.cell (p := ⟨bx, 0, none⟩) (World.block_lt_of_cell? _ _ c0)).trans c0)
      clear hyd hb hlt hnx hacc hw4 hbx
      go_upto_region 8 with fail
      rw [W4.out, HBX.out]
      go_wp2_with fail
      refine (SZ.out b _).mono ?_
      rintro e w5 ⟨rfl, q5, hq5⟩
      have D5 := hid (show Below w4.heap.size w4 w5 by rw [hq5]; exact below_drewN' (Below.refl _ _) _)
      have cb := CB.out _ D5.out
      clear hq5 e0 c0
      by_cases hp : pop b = 1
      · have hpi : ((pop b : Int) != 1) = false := by rw [hp]; rfl
        have CF := hid (containsFB_any b bx fs (.slice vo fs.length vcap) w5 (RdC.below HV.out (D3.out.trans ((D4.out.trans (D5.out.mono D4.out.size)).mono D3.out.size))) cb)
        have HP := hid hp
        clear hp
        go_wp2_with fail
        refine CF.out.mono ?_
        rintro e w6 ⟨rfl, hb6⟩
        have D6 := hid (D5.out.trans (hb6.mono D5.out.size))
        have DD := hid (D4.out.trans (D6.out.mono D4.out.size))
        clear hb6 cb
        have cb := CB.out _ D6.out
        cases hany : fs.any (closQ b) with
        | true =>
          have TT := hid (show closB fs (ys.take (k + 1)) x = acc ||| b by rw [TK.out, if_pos (by unfold closR; rw [HP.out, hany]; rfl)])
          clear hany
          go_wp2_with fail
          go_roundw
          case rel => exact ⟨k + 1, by have := HLT.out; omega, by go_num, by rw [TT.out], DD.out⟩
          case measure => have := HLT.out; simp [intOf]; omega
        | false =>
          have TT := hid (show closB fs (ys.take (k + 1)) x = acc by rw [TK.out, if_neg (by unfold closR; rw [hany]; simp)])
          clear hany
          go_wp2_with fail
          go_roundw
          case rel => exact ⟨k + 1, by have := HLT.out; omega, by go_num, by rw [TT.out], DD.out⟩
          case measure => have := HLT.out; simp [intOf]; omega
      · have hpi : ((pop b : Int) != 1) = true := by rw [bne_iff_ne]; omega
        have TT := hid (show closB fs (ys.take (k + 1)) x = acc by rw [TK.out, if_neg (by unfold closR; simp [hp])])
        have DD := hid (D4.out.trans (D5.out.mono D4.out.size))
        clear hp
        go_wp2_with fail
        go_roundw
        case rel => exact ⟨k + 1, by have := HLT.out; omega, by go_num, by rw [TT.out], DD.out⟩
        case measure => have := HLT.out; simp [intOf]; omega
    · have hltI : ¬ (k : Int) < (ys.length : Int) := by omega
      have TE := hid (show ys.take k = ys from take_all hlt)
      have BF := hid (D3.out.trans (NX.out.mono D3.out.size))
      rw [TE.out]
      clear hnx hlt
      go_wp2_with fail
      go_ret2
      exact ⟨ys, YR.out, rfl, BF.out⟩

/-- What ImpliesFD answers. -/
def bfdB (fs : List F) (ys : List S) (g : F) : Bool := g.2 &&& ~~~ (closB fs ys g.1) == 0#32
set_option maxHeartbeats 3200000 in
set_option maxRecDepth 100000 in
theorem bfd_any (n : Nat) (fs gs : List F) (g : F) (v u : Value) (w : World) (hT : Tab w) (hv : RdF w v fs) (hu : RdF w u gs) (hn : n ≤ 16) (hval : validF (n : Int) fs = 0) (hfl : fs.length ≤ 64) (hl : gs.length ≤ 64) (hg : ∀ m ∈ gs, (m.1 ||| m.2) >>> n = 0#32) (hs : (g.1 ||| g.2) >>> n = 0#32) :
    Calls Tryz.prog 10 #[.int .i64 (n : Int), v, u, .agg #[.int .u32 (iv g.1), .int .u32 (iv g.2)]] w fun e w' => ∃ ys, BlkR n (allM fs gs) g.1 ys ∧ e = .returned (.tuple #[.bool (bfdB fs ys g), .int .i64 0]) ∧ Below w.heap.size w w' := by
  have hb0 := below_alloc w (.cells #[.int .u32 (iv g.1), .int .u32 (iv g.2)] 49)
  have C2 := hid (fun (W : World) h => cells2 (w := w) (a := .int .u32 (iv g.1)) (b := .int .u32 (iv g.2)) (t := 49) W h)
  obtain ⟨w0, hw0⟩ : ∃ w0 : World, w.alloc (.cells #[.int .u32 (iv g.1), .int .u32 (iv g.2)] 49) = w0 := ⟨_, rfl⟩
  rw [hw0] at hb0 C2
  have W0 := hid hw0
  have B0 := hid hb0
  have hs1 : g.1 >>> n = 0#32 := by
    have h := (shrOk_sub (n := n) (s := g.1 ||| g.2) (by omega)).1 (beq_iff_eq.2 hs)
    exact beq_iff_eq.1 ((shrOk_sub (by omega)).2 (sub_or.1 h).1)
  have CK := hid (basCk_any n fs gs v u (g.1 ||| g.2) w0 (RdC.below hv hb0) (RdC.below hu hb0) hn hval hl hg hs)
  have CL := hid (fun (W : World) (h : Below w0.heap.size w0 W) => bclose_any n fs gs g.1 v u W ((hT.below hb0).below h) (RdC.below (RdC.below hv hb0) h) (RdC.below (RdC.below hu hb0) h) hn hval hfl hl hg hs1)
  obtain ⟨c0, c1⟩ := C2.out _ (Below.refl _ _)
  obtain ⟨vo, vcap, rfl, -⟩ := hv
  obtain ⟨uo, ucap, rfl, -⟩ := hu
  have n0 : (0 : Int) ≤ (n : Int) := by omega
  have n1 : (n : Int) ≤ 16 := by omega
  clear hT hn hval hfl hl hg hs hs1 hb0 hw0
  go_enter Tryz.func10, Tryz.ntmps10
  go_upto_region 1 with fail
  rw [W0.out]
  go_wp2_with fail
  refine CK.out.mono ?_
  rintro e w1 ⟨rfl, hb1⟩
  have D1 := hid hb1
  clear hb1 c0 c1
  obtain ⟨c0, c1⟩ := C2.out _ D1.out
  go_wp2_with fail
  refine (CL.out _ D1.out).mono ?_
  rintro e w2 ⟨ys, hyr, rfl, hb2⟩
  have D2 := hid (D1.out.trans (hb2.mono D1.out.size))
  have YR := hid hyr
  have RB := hid (show bfdB fs ys g = (g.2 &&& ~~~ (closB fs ys g.1) == 0#32) from rfl)
  clear hb2 c0 c1 hyr
  obtain ⟨c0, c1⟩ := C2.out _ D2.out
  go_wp2_with fail
  go_ret2
  exact ⟨ys, YR.out, by rw [RB.out]; rfl, B0.out.trans (D2.out.mono B0.out.size)⟩

end Go.Proofs.YtcfcmalaabmceaaGreatDoor

