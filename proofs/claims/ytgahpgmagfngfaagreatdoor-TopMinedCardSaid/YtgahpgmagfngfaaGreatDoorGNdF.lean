/- Texts that belong together, in one file. -/
import Derived.Test.YtgahpgmagfngfaaGreatDoorGNdE
import Derived.Test.YtgahpgmagfngfaaGreatDoorGNdC
import Derived.Test.YtgahpgmagfngfaaGreatDoorItoaS
import Derived.Test.YtgahpgmagfngfaaGreatDoorGKm2
import Derived.Deep.DeepCutAuto
/- States of inclusion in memory; the walk of state.name. -/
namespace Go.Proofs.YtgahpgmagfngfaaGreatDoor
open Go.RowKit
set_option linter.unusedVariables false

/-! The names. -/
def nmL (s : SN) : List UInt8 := UInt8.ofNat (114 + s.1) :: s.2.flatMap fun a => [32, UInt8.ofNat (48 + a)]
theorem nmL_nil (t : Nat) : strB (nmL (t, [])) = nmT t := rfl
theorem nmL_length (s : SN) : (nmL s).length = 1 + 2 * s.2.length := by
  unfold nmL
  rw [List.length_cons]
  have : ∀ l : List Nat, (l.flatMap fun a => [32, UInt8.ofNat (48 + a)] : List UInt8).length = 2 * l.length := by
    intro l
    induction l with
    | nil => rfl
    | cons a l ih => rw [List.flatMap_cons, List.length_append, ih, List.length_cons]; simp; omega
  rw [this]; omega
theorem nmL_next {t : Nat} {l : List Nat} {j a : Nat} (h : l[j]? = some a) : nmL (t, l.take (j + 1)) = nmL (t, l.take j) ++ [32, UInt8.ofNat (48 + a)] := by
  unfold nmL
  simp only
  rw [take_next h, List.flatMap_append]
  simp
theorem nmL_inj {s s' : SN} (h1 : s.1 < 100) (h1' : s'.1 < 100) (h2 : ∀ a ∈ s.2, a < 10) (h2' : ∀ a ∈ s'.2, a < 10) (h : nmL s = nmL s') : s = s' := by
  obtain ⟨t, l⟩ := s
  obtain ⟨t', l'⟩ := s'
  unfold nmL at h
  rw [List.cons.injEq] at h
  obtain ⟨ha, hb⟩ := h
  have e1 : t = t' := by
    have := congrArg UInt8.toNat ha
    simp only [UInt8.toNat_ofNat'] at this
    simp only at h1 h1'
    omega
  have key : ∀ (l l' : List Nat), (∀ a ∈ l, a < 10) → (∀ a ∈ l', a < 10) → (l.flatMap fun a => ([32, UInt8.ofNat (48 + a)] : List UInt8)) = (l'.flatMap fun a => ([32, UInt8.ofNat (48 + a)] : List UInt8)) → l = l' := by
    intro l
    induction l with
    | nil =>
      intro l' _ _ h
      cases l' with
      | nil => rfl
      | cons a l' => simp at h
    | cons a l ih =>
      intro l' h2 h2' h
      cases l' with
      | nil => simp at h
      | cons b l' =>
        rw [List.flatMap_cons, List.flatMap_cons] at h
        simp only [List.cons_append, List.nil_append, List.cons.injEq, true_and] at h
        have hh := congrArg UInt8.toNat h.1
        simp only [UInt8.toNat_ofNat'] at hh
        have q1 := h2 a (by simp)
        have q2 := h2' b (by simp)
        rw [ih l' (fun x hx => h2 x (by simp [hx])) (fun x hx => h2' x (by simp [hx])) h.2]
        have : a = b := by omega
        rw [this]
  rw [e1, key l l' h2 h2' hb]
def nmK (s : SN) : KS := mkKS (nmL s)
theorem nmK_val {s : SN} (h : s.2.length ≤ 1000) : (nmK s).1 = strB (nmL s) := mkKS_val (by rw [nmL_length]; unfold maxLen; omega)
theorem nmK_inj {s s' : SN} (hl : s.2.length ≤ 1000) (hl' : s'.2.length ≤ 1000) (h1 : s.1 < 100) (h1' : s'.1 < 100) (h2 : ∀ a ∈ s.2, a < 10) (h2' : ∀ a ∈ s'.2, a < 10) (h : nmK s = nmK s') : s = s' :=
  nmL_inj h1 h1' h2 h2' (mkKS_inj (by rw [nmL_length]; unfold maxLen; omega) (by rw [nmL_length]; unfold maxLen; omega) h)
theorem dig_small {a : Nat} (h : a < 10) : Lib.decDigits a = [UInt8.ofNat (48 + a)] := by rw [Lib.decDigits, dif_pos h]
theorem cells5 {w : World} {a b c d f : Value} {t : TypeId} (W : World) (h : Below (w.alloc (.cells #[a, b, c, d, f] t)).heap.size (w.alloc (.cells #[a, b, c, d, f] t)) W) :
    W.cell? ⟨w.heap.size, 0, none⟩ = some a ∧ W.cell? ⟨w.heap.size, 1, none⟩ = some b ∧ W.cell? ⟨w.heap.size, 2, none⟩ = some c ∧ W.cell? ⟨w.heap.size, 3, none⟩ = some d ∧ W.cell? ⟨w.heap.size, 4, none⟩ = some f := by
  have g : ∀ j, W.cell? ⟨w.heap.size, j, none⟩ = (w.alloc (.cells #[a, b, c, d, f] t)).cell? ⟨w.heap.size, j, none⟩ := fun j => h.cell (p := ⟨w.heap.size, j, none⟩) (by simp)
  refine ⟨(g 0).trans ?_, (g 1).trans ?_, (g 2).trans ?_, (g 3).trans ?_, (g 4).trans ?_⟩ <;> simp

set_option maxHeartbeats 1600000 in
theorem sname_any (t : Nat) (l : List Nat) (av : Value) (bf ix : Int) (pv : Value) (w : World) (hl : RdE encI w av l) (h9 : ∀ a ∈ l, a < 10) (h32 : l.length ≤ 32) :
    Calls Tryz.prog 50 #[.agg #[.string (nmT t), av, .int .i64 bf, .int .i64 ix, pv]] w fun e w' => e = .returned (.string (nmK (t, l)).1) ∧ Below w.heap.size w w' := by
  obtain ⟨ao, acap, rfl, -, hc⟩ := hl.split
  have HC := hid hc
  unfold encI at HC
  have NV := hid (show (nmK (t, l)).1 = strB (nmL (t, l)) from nmK_val (by show l.length ≤ 1000; omega))
  rw [NV.out]
  have HB := hid (below_alloc w (.cells #[.string (nmT t), .slice ao l.length acap, .int .i64 bf, .int .i64 ix, pv] 114))
  have CS := hid (fun (W : World) h => cells5 (w := w) (a := .string (nmT t)) (b := .slice ao l.length acap) (c := .int .i64 bf) (d := .int .i64 ix) (f := pv) (t := 114) W h)
  obtain ⟨w0, hw0⟩ : ∃ w0 : World, w.alloc (.cells #[.string (nmT t), .slice ao l.length acap, .int .i64 bf, .int .i64 ix, pv] 114) = w0 := ⟨_, rfl⟩
  rw [hw0] at HB CS
  have W0 := hid hw0
  have HL9 := hid h9
  have l32 : (l.length : Int) ≤ 32 := by omega
  have IT := hid (fun (a : Nat) (ha : a < 10) (W : World) => show Calls Tryz.prog 86 #[.int .i64 (a : Int)] W fun e w' => e = .returned (.string (strB [UInt8.ofNat (48 + a)])) ∧ w' = W from by
    have := Any.strconv_Itoa_small Tryz.itoaS a (by omega) W
    rw [dig_small ha] at this
    exact this)
  have SA := hid (fun (x : List UInt8) (a : Nat) => show strB x ++ (ByteArray.mk #[32] ++ strB [UInt8.ofNat (48 + a)]) = strB (x ++ [32, UInt8.ofNat (48 + a)]) from by
    show strB x ++ (strB [32] ++ strB [UInt8.ofNat (48 + a)]) = _
    rw [strB_append, strB_append]; rfl)
  obtain ⟨c0, c1, -⟩ := CS.out w0 (Below.refl _ _)
  clear hl hc hw0 h9
  go_enter Tryz.func50, Tryz.ntmps50
  go_wp2_with fail
  rw [W0.out]
  go_wp2_with fail
  go_loopw [3, 11] (fun o x wr => ∃ j : Nat, j ≤ l.length ∧ x = .int .i64 j ∧ o = .string (strB (nmL (t, l.take j))) ∧ w0 = wr) (fun _ x _ => l.length - (intOf x).toNat)
  case atStart => exact ⟨0, Nat.zero_le _, rfl, by rw [List.take_zero, nmL_nil], rfl⟩
  case round =>
    obtain ⟨j, hj, rfl, rfl, rfl⟩ := hrel
    have j0 : (0 : Int) ≤ (j : Int) := by omega
    by_cases hlt : j < l.length
    · have hltI : (j : Int) < (l.length : Int) := by omega
      obtain ⟨a, ha⟩ := get_some hlt
      obtain ⟨b, off, rfl, hd⟩ := HC.out j a ha
      have e0 := hd w0 HB.out
      have I1 := hid (IT.out a (HL9.out a (List.mem_of_getElem? ha)) w0)
      have NX := hid (nmL_next (t := t) ha)
      have SZ := hid (show (nmL (t, l.take j)).length ≤ 1000 by rw [nmL_length]; have := List.length_take_le j l; simp only; omega)
      have SA1 := hid (SA.out (nmL (t, l.take j)) a)
      rw [← NX.out] at SA1
      clear hd ha
      obtain ⟨sx, hsx⟩ : ∃ sx, strB (nmL (t, l.take j)) = sx := ⟨_, rfl⟩
      have sz1 : sx.size ≤ 1000 := by rw [← hsx, strB_size]; exact SZ.out
      obtain ⟨sa, hsa⟩ : ∃ sa, strB [UInt8.ofNat (48 + a)] = sa := ⟨_, rfl⟩
      have sz2 : sa.size = 1 := by rw [← hsa, strB_size]; rfl
      rw [hsx, hsa] at SA1
      rw [hsa] at I1
      rw [hsx]
      clear hsx hsa
      go_wp2_with fail
      refine I1.out.mono ?_
      rintro e w' ⟨rfl, rfl⟩
      go_wp2_with fail
      go_roundw
      case rel => exact ⟨j + 1, by omega, by go_num, by rw [← SA1.out], by first | rfl | trivial⟩
      case measure => simp [intOf]; omega
    · have hltI : ¬ (j : Int) < (l.length : Int) := by omega
      have TE := hid (show l.take j = l from List.take_of_length_le (by omega))
      rw [TE.out]
      go_wp2_with fail
      go_ret
      exact ⟨rfl, HB.out⟩

end Go.Proofs.YtgahpgmagfngfaaGreatDoor


/- The walk of inclusion.follow. -/
namespace Go.Proofs.YtgahpgmagfngfaaGreatDoor
open Go.RowKit
set_option linter.unusedVariables false

/-- The state that follow makes. -/
structure Nx (w : World) (nb : Nat) (t : Nat) (ix : Int) (v1 v4 : Value) (l1 l4 : List Nat) : Prop where
  c0 : w.cell? ⟨nb, 0, none⟩ = some (.string (nmT t))
  c1 : w.cell? ⟨nb, 1, none⟩ = some v1
  c2 : w.cell? ⟨nb, 2, none⟩ = some (.int .i64 0)
  c3 : w.cell? ⟨nb, 3, none⟩ = some (.int .i64 ix)
  c4 : w.cell? ⟨nb, 4, none⟩ = some v4
  f1 : w.frozen? ⟨nb, 1, none⟩ = false
  f4 : w.frozen? ⟨nb, 4, none⟩ = false
  o1 : w.ownsRow (nb + 1) 3 1 v1 l1.length (l1.map encI)
  o4 : w.ownsRow (nb + 1) 3 1 v4 l4.length (l4.map encI)
  ap : v1.ownBlock = none ∨ v1.ownBlock ≠ v4.ownBlock
theorem Nx.lt {w : World} {nb t : Nat} {ix : Int} {v1 v4 : Value} {l1 l4 : List Nat} (h : Nx w nb t ix v1 v4 l1 l4) : nb < w.heap.size := World.block_lt_of_cell? _ _ h.c0
theorem Nx.n1 {w : World} {nb t : Nat} {ix : Int} {v1 v4 : Value} {l1 l4 : List Nat} (h : Nx w nb t ix v1 v4 l1 l4) : v1.ownBlock ≠ some nb := fun e => by have := (h.o1.lt _ e).1; omega
theorem Nx.n4 {w : World} {nb t : Nat} {ix : Int} {v1 v4 : Value} {l1 l4 : List Nat} (h : Nx w nb t ix v1 v4 l1 l4) : v4.ownBlock ≠ some nb := fun e => by have := (h.o4.lt _ e).1; omega
theorem Nx.below {w w' : World} {nb t : Nat} {ix : Int} {v1 v4 : Value} {l1 l4 : List Nat} (h : Nx w nb t ix v1 v4 l1 l4) (hb : Below w.heap.size w w') : Nx w' nb t ix v1 v4 l1 l4 := by
  have e := hb.block nb h.lt
  have g : ∀ j, w'.cell? ⟨nb, j, none⟩ = w.cell? ⟨nb, j, none⟩ := fun j => World.cell?_of_block (w := w) e
  have gf : ∀ j, w'.frozen? ⟨nb, j, none⟩ = w.frozen? ⟨nb, j, none⟩ := fun j => World.frozen?_of_block e
  exact ⟨(g _).trans h.c0, (g _).trans h.c1, (g _).trans h.c2, (g _).trans h.c3, (g _).trans h.c4, (gf _).trans h.f1, (gf _).trans h.f4, own_below h.o1 hb, own_below h.o4 hb, h.ap⟩
/-- One more position, stored. -/
theorem Nx.put4 {w w1 : World} {nb t : Nat} {ix : Int} {v1 v4 v' : Value} {l1 l4 l' : List Nat} (h : Nx w nb t ix v1 v4 l1 l4) (ho : w1.ownsRow (nb + 1) 3 1 v' l'.length (l'.map encI)) (hg : w.grownBy w1 v4.ownBlock) (hv : v'.ownBlock = v4.ownBlock ∨ v'.ownBlock = some w.heap.size) :
    Nx (w1.setCell ⟨nb, 4, none⟩ v') nb t ix v1 v' l1 l' := by
  have e := hg.block nb h.lt (fun e => h.n4 e.symm)
  have g : ∀ j, w1.cell? ⟨nb, j, none⟩ = w.cell? ⟨nb, j, none⟩ := fun j => World.cell?_of_block (w := w) e
  have gf : ∀ j, w1.frozen? ⟨nb, j, none⟩ = w.frozen? ⟨nb, j, none⟩ := fun j => World.frozen?_of_block e
  have hn : v'.ownBlock ≠ some nb := fun e => by have := (ho.lt _ e).1; omega
  refine ⟨?_, ?_, ?_, ?_, World.cell?_setCell_same _ _ _ ((g 4).trans h.c4), by simp [(gf 1).trans h.f1], by simp [(gf 4).trans h.f4], ?_, ownsRow_setCell_other ho hn _, ?_⟩
  · exact (World.cell?_setCell_other _ _ _ _ (by simp)).trans ((g 0).trans h.c0)
  · exact (World.cell?_setCell_other _ _ _ _ (by simp)).trans ((g 1).trans h.c1)
  · exact (World.cell?_setCell_other _ _ _ _ (by simp)).trans ((g 2).trans h.c2)
  · exact (World.cell?_setCell_other _ _ _ _ (by simp)).trans ((g 3).trans h.c3)
  · exact ownsRow_setCell_other (h.o1.kept hg h.ap) h.n1 _
  · cases hb : v1.ownBlock with
    | none => exact .inl rfl
    | some k =>
      refine .inr ?_
      rcases hv with e1 | e1
      · rw [e1, ← hb]
        rcases h.ap with e2 | e2
        · rw [e2] at hb; cases hb
        · exact e2
      · rw [e1]; intro e2; have h1 : k = w.heap.size := Option.some.inj e2; have := (h.o1.lt k hb).2; omega
/-- One more attribute, stored. -/
theorem Nx.put1 {w w1 : World} {nb t : Nat} {ix : Int} {v1 v4 v' : Value} {l1 l4 l' : List Nat} (h : Nx w nb t ix v1 v4 l1 l4) (ho : w1.ownsRow (nb + 1) 3 1 v' l'.length (l'.map encI)) (hg : w.grownBy w1 v1.ownBlock) (hv : v'.ownBlock = v1.ownBlock ∨ v'.ownBlock = some w.heap.size) :
    Nx (w1.setCell ⟨nb, 1, none⟩ v') nb t ix v' v4 l' l4 := by
  have e := hg.block nb h.lt (fun e => h.n1 e.symm)
  have g : ∀ j, w1.cell? ⟨nb, j, none⟩ = w.cell? ⟨nb, j, none⟩ := fun j => World.cell?_of_block (w := w) e
  have gf : ∀ j, w1.frozen? ⟨nb, j, none⟩ = w.frozen? ⟨nb, j, none⟩ := fun j => World.frozen?_of_block e
  have hn : v'.ownBlock ≠ some nb := fun e => by have := (ho.lt _ e).1; omega
  have ap' : v4.ownBlock = none ∨ v4.ownBlock ≠ v1.ownBlock := by
    rcases h.ap with e | e
    · by_cases e2 : v4.ownBlock = none
      · exact .inl e2
      · exact .inr (by rw [e]; exact e2)
    · exact .inr (fun e2 => e e2.symm)
  refine ⟨?_, World.cell?_setCell_same _ _ _ ((g 1).trans h.c1), ?_, ?_, ?_, by simp [(gf 1).trans h.f1], by simp [(gf 4).trans h.f4], ownsRow_setCell_other ho hn _, ownsRow_setCell_other (h.o4.kept hg ap') h.n4 _, ?_⟩
  · exact (World.cell?_setCell_other _ _ _ _ (by simp)).trans ((g 0).trans h.c0)
  · exact (World.cell?_setCell_other _ _ _ _ (by simp)).trans ((g 2).trans h.c2)
  · exact (World.cell?_setCell_other _ _ _ _ (by simp)).trans ((g 3).trans h.c3)
  · exact (World.cell?_setCell_other _ _ _ _ (by simp)).trans ((g 4).trans h.c4)
  · cases hb : v'.ownBlock with
    | none => exact .inl rfl
    | some k =>
      refine .inr ?_
      rcases hv with e1 | e1
      · rw [← hb, e1]
        rcases h.ap with e2 | e2
        · rw [e1, e2] at hb; cases hb
        · exact e2
      · rw [← hb, e1]; intro e2; have := (h.o4.lt _ e2.symm).2; omega

/-- What follow gives. -/
def FolQ (d : DN) (s : SN) (ix : Int) (w : World) (e : Ending) (w' : World) : Prop :=
  ((appS d s = false ∧ e = .returned (.tuple #[.agg #[.string (ByteArray.mk #[]), .slice none 0 0, .int .i64 0, .int .i64 0, .slice none 0 0], .bool false])) ∨
   (appS d s = true ∧ ∃ (ao : Option Addr) (an ac : Nat) (po : Option Addr) (pn pc : Nat), e = .returned (.tuple #[.agg #[.string (nmT d.2.1), .slice ao an ac, .int .i64 0, .int .i64 ix, .slice po pn pc], .bool true]) ∧
     RdE encI w' (.slice ao an ac) (s.2.map (goS d)) ∧ ∀ j, j < w.heap.size → FarV (.slice ao an ac) (some j))) ∧ Below w.heap.size w w'
theorem cells4I {w : World} {a b c d : Value} {t : TypeId} (W : World) (h : Below (w.alloc (.cells #[a, b, c, d] t)).heap.size (w.alloc (.cells #[a, b, c, d] t)) W) :
    W.cell? ⟨w.heap.size, 0, none⟩ = some a ∧ W.cell? ⟨w.heap.size, 1, none⟩ = some b ∧ W.cell? ⟨w.heap.size, 2, none⟩ = some c ∧ W.cell? ⟨w.heap.size, 3, none⟩ = some d := by
  have g : ∀ j, W.cell? ⟨w.heap.size, j, none⟩ = (w.alloc (.cells #[a, b, c, d] t)).cell? ⟨w.heap.size, j, none⟩ := fun j => h.cell (p := ⟨w.heap.size, j, none⟩) (by simp)
  refine ⟨(g 0).trans ?_, (g 1).trans ?_, (g 2).trans ?_, (g 3).trans ?_⟩ <;> simp
theorem set5I {W : World} {b : Nat} {x0 x1 x2 x3 x4 y0 y1 y2 y3 y4 : Value} (h0 : W.cell? ⟨b, 0, none⟩ = some x0) (h1 : W.cell? ⟨b, 1, none⟩ = some x1) (h2 : W.cell? ⟨b, 2, none⟩ = some x2) (h3 : W.cell? ⟨b, 3, none⟩ = some x3) (h4 : W.cell? ⟨b, 4, none⟩ = some x4) {W5 : World}
    (hW : ((((W.setCell ⟨b, 0, none⟩ y0).setCell ⟨b, 1, none⟩ y1).setCell ⟨b, 2, none⟩ y2).setCell ⟨b, 3, none⟩ y3).setCell ⟨b, 4, none⟩ y4 = W5) :
    W5.cell? ⟨b, 0, none⟩ = some y0 ∧ W5.cell? ⟨b, 1, none⟩ = some y1 ∧ W5.cell? ⟨b, 2, none⟩ = some y2 ∧ W5.cell? ⟨b, 3, none⟩ = some y3 ∧ W5.cell? ⟨b, 4, none⟩ = some y4 := by
  subst hW
  have o : ∀ (V : World) (i j : Nat) (y : Value), i ≠ j → (V.setCell ⟨b, j, none⟩ y).cell? ⟨b, i, none⟩ = V.cell? ⟨b, i, none⟩ := fun V i j y hij => World.cell?_setCell_other _ _ _ _ (by simp)
  have sm : ∀ (V : World) (i : Nat) (x y : Value), V.cell? ⟨b, i, none⟩ = some x → (V.setCell ⟨b, i, none⟩ y).cell? ⟨b, i, none⟩ = some y := fun V i x y h => World.cell?_setCell_same _ _ _ h
  refine ⟨?_, ?_, ?_, ?_, ?_⟩
  · rw [o _ 0 4 _ (by decide), o _ 0 3 _ (by decide), o _ 0 2 _ (by decide), o _ 0 1 _ (by decide)]; exact sm _ _ _ _ h0
  · rw [o _ 1 4 _ (by decide), o _ 1 3 _ (by decide), o _ 1 2 _ (by decide)]; exact sm _ _ _ _ ((o _ 1 0 _ (by decide)).trans h1)
  · rw [o _ 2 4 _ (by decide), o _ 2 3 _ (by decide)]; exact sm _ _ _ _ ((o _ 2 1 _ (by decide)).trans ((o _ 2 0 _ (by decide)).trans h2))
  · rw [o _ 3 4 _ (by decide)]; exact sm _ _ _ _ ((o _ 3 2 _ (by decide)).trans ((o _ 3 1 _ (by decide)).trans ((o _ 3 0 _ (by decide)).trans h3)))
  · exact sm _ _ _ _ ((o _ 4 3 _ (by decide)).trans ((o _ 4 2 _ (by decide)).trans ((o _ 4 1 _ (by decide)).trans ((o _ 4 0 _ (by decide)).trans h4))))
theorem set5_below {B : Nat} {w W : World} {b : Nat} {y0 y1 y2 y3 y4 : Value} (h : Below B w W) (hb : B ≤ b) : Below B w (((((W.setCell ⟨b, 0, none⟩ y0).setCell ⟨b, 1, none⟩ y1).setCell ⟨b, 2, none⟩ y2).setCell ⟨b, 3, none⟩ y3).setCell ⟨b, 4, none⟩ y4) :=
  ((((h.setCell (p := ⟨b, 0, none⟩) hb y0).setCell (p := ⟨b, 1, none⟩) hb y1).setCell (p := ⟨b, 2, none⟩) hb y2).setCell (p := ⟨b, 3, none⟩) hb y3).setCell (p := ⟨b, 4, none⟩) hb y4
theorem boxF (w : World) (a b c d f p q r s : Value) (W : World) (h : Below (((w.alloc (.cells #[a, b, c, d, f] 114)).alloc (.cells #[p, q, r, s] 39)).alloc (.cells #[.string (ByteArray.mk #[]), .slice none 0 0, .int .i64 0, .int .i64 0, .slice none 0 0] 114)).heap.size (((w.alloc (.cells #[a, b, c, d, f] 114)).alloc (.cells #[p, q, r, s] 39)).alloc (.cells #[.string (ByteArray.mk #[]), .slice none 0 0, .int .i64 0, .int .i64 0, .slice none 0 0] 114)) W) :
    (W.cell? ⟨w.heap.size, 0, none⟩ = some a ∧ W.cell? ⟨w.heap.size, 1, none⟩ = some b) ∧
    (W.cell? ⟨w.heap.size + 1, 0, none⟩ = some p ∧ W.cell? ⟨w.heap.size + 1, 1, none⟩ = some q ∧ W.cell? ⟨w.heap.size + 1, 2, none⟩ = some r ∧ W.cell? ⟨w.heap.size + 1, 3, none⟩ = some s) ∧
    (W.cell? ⟨w.heap.size + 1 + 1, 0, none⟩ = some (.string (ByteArray.mk #[])) ∧ W.cell? ⟨w.heap.size + 1 + 1, 1, none⟩ = some (.slice none 0 0) ∧ W.cell? ⟨w.heap.size + 1 + 1, 2, none⟩ = some (.int .i64 0) ∧ W.cell? ⟨w.heap.size + 1 + 1, 3, none⟩ = some (.int .i64 0) ∧ W.cell? ⟨w.heap.size + 1 + 1, 4, none⟩ = some (.slice none 0 0)) ∧
    ∀ j, W.frozen? ⟨w.heap.size + 1 + 1, j, none⟩ = false := by
  have s1 : (w.alloc (.cells #[a, b, c, d, f] 114)).heap.size = w.heap.size + 1 := by simp
  have s2 : ((w.alloc (.cells #[a, b, c, d, f] 114)).alloc (.cells #[p, q, r, s] 39)).heap.size = w.heap.size + 1 + 1 := by simp
  have b2 := below_alloc ((w.alloc (.cells #[a, b, c, d, f] 114)).alloc (.cells #[p, q, r, s] 39)) (.cells #[.string (ByteArray.mk #[]), .slice none 0 0, .int .i64 0, .int .i64 0, .slice none 0 0] 114)
  have b1 := below_alloc (w.alloc (.cells #[a, b, c, d, f] 114)) (.cells #[p, q, r, s] 39)
  have h2 := b2.trans (h.mono b2.size)
  have h1 := b1.trans (h2.mono b1.size)
  obtain ⟨x0, x1, -⟩ := cells5 W h1
  obtain ⟨y0, y1, y2, y3⟩ := cells4I W h2
  obtain ⟨z0, z1, z2, z3, z4⟩ := cells5 W h
  rw [s1] at y0 y1 y2 y3
  rw [s2] at z0 z1 z2 z3 z4
  refine ⟨⟨x0, x1⟩, ⟨y0, y1, y2, y3⟩, ⟨z0, z1, z2, z3, z4⟩, fun j => ?_⟩
  refine (h.frozen (p := ⟨w.heap.size + 1 + 1, j, none⟩) (by simp)).trans ?_
  have h9 := World.frozen?_alloc_new ((w.alloc (.cells #[a, b, c, d, f] 114)).alloc (.cells #[p, q, r, s] 39)) #[.string (ByteArray.mk #[]), .slice none 0 0, .int .i64 0, .int .i64 0, .slice none 0 0] 114 j
  rw [s2] at h9
  exact h9
theorem appS_neg {d : DN} {s : SN} (h : d.1 ≠ s.1) : appS d s = false := by
  unfold appS; rw [decide_eq_false h]; rfl
theorem appS_out {d : DN} {s : SN} {j a : Nat} (h : s.2[j]? = some a) (hn : a ∉ d.2.2.1) : appS d s = false := by
  unfold appS
  have : (s.2.all fun a => d.2.2.1.contains a) = false := by
    rw [List.all_eq_false]
    exact ⟨a, List.mem_of_getElem? h, by simpa using hn⟩
  rw [this, Bool.and_false]

set_option maxHeartbeats 6400000 in
set_option maxRecDepth 100000 in
theorem ifollow_any (d : DN) (s : SN) (ix : Nat) (av : Value) (bf jx : Int) (pv lv rv : Value) (w : World) (hs : RdE encI w av s.2) (hl : RdE encI w lv d.2.2.1) (hr : RdE encI w rv d.2.2.2) (hlr : d.2.2.1.length = d.2.2.2.length) (hs32 : s.2.length ≤ 32) (hl32 : d.2.2.1.length ≤ 32) (hd1 : d.1 < 100) (hs1 : s.1 < 100) (hpv : ∃ po pn pc, pv = .slice po pn pc) :
    Calls Tryz.prog 51 #[.agg #[.string (nmT s.1), av, .int .i64 bf, .int .i64 jx, pv], .int .i64 (ix : Int), .agg #[.string (nmT d.1), lv, .string (nmT d.2.1), rv]] w (FolQ d s (ix : Int) w) := by
  obtain ⟨po, pn, pc, rfl⟩ := hpv
  obtain ⟨st, sl⟩ := s
  obtain ⟨ao, acap, hav, -, hca⟩ := hs.split
  obtain ⟨lo, lcap, hlv, -⟩ := hl.split
  obtain ⟨ro, rcap, hrv, -, hcr⟩ := hr.split
  obtain ⟨df, dt, dl, dr⟩ := d
  simp only at hav hlv hrv hca hcr hlr hs32 hl32 hd1 hs1
  subst hav hlv hrv
  have hb := (below_alloc w (.cells #[.string (nmT st), .slice ao sl.length acap, .int .i64 bf, .int .i64 jx, .slice po pn pc] 114)).trans ((below_alloc (w.alloc (.cells #[.string (nmT st), .slice ao sl.length acap, .int .i64 bf, .int .i64 jx, .slice po pn pc] 114)) (.cells #[.string (nmT df), .slice lo dl.length lcap, .string (nmT dt), .slice ro dr.length rcap] 39)).mono (by simp))
  have hb0 := hb.trans ((below_alloc ((w.alloc (.cells #[.string (nmT st), .slice ao sl.length acap, .int .i64 bf, .int .i64 jx, .slice po pn pc] 114)).alloc (.cells #[.string (nmT df), .slice lo dl.length lcap, .string (nmT dt), .slice ro dr.length rcap] 39)) (.cells #[.string (ByteArray.mk #[]), .slice none 0 0, .int .i64 0, .int .i64 0, .slice none 0 0] 114)).mono (by simp; omega))
  have BX := hid (boxF w (.string (nmT st)) (.slice ao sl.length acap) (.int .i64 bf) (.int .i64 jx) (.slice po pn pc) (.string (nmT df)) (.slice lo dl.length lcap) (.string (nmT dt)) (.slice ro dr.length rcap))
  obtain ⟨w0, hw0⟩ : ∃ w0 : World, ((w.alloc (.cells #[.string (nmT st), .slice ao sl.length acap, .int .i64 bf, .int .i64 jx, .slice po pn pc] 114)).alloc (.cells #[.string (nmT df), .slice lo dl.length lcap, .string (nmT dt), .slice ro dr.length rcap] 39)).alloc (.cells #[.string (ByteArray.mk #[]), .slice none 0 0, .int .i64 0, .int .i64 0, .slice none 0 0] 114) = w0 := ⟨_, rfl⟩
  have hs0 : w0.heap.size = w.heap.size + 1 + 1 + 1 := by rw [← hw0]; simp
  rw [hw0] at hb0 BX
  have B0 := hid hb0
  have W0 := hid hw0
  have HS0 := hid hs0
  have CA := hid hca
  have CR := hid hcr
  unfold encI at CA CR
  have L0 := hid (hl.below hb0)
  have IDX := hid (fun (a : Nat) (W : World) (h : Below w0.heap.size w0 W) => iindex_any a dl (.slice lo dl.length lcap) W (L0.out.below h))
  have HLR := hid hlr
  have sl32 : (sl.length : Int) ≤ 32 := by omega
  have HL32 := hid hl32
  have HS32 := hid hs32
  obtain ⟨⟨x0, x1⟩, ⟨y0, y1, y2, y3⟩, ⟨z0, z1, z2, z3, z4⟩, zf⟩ := BX.out _ (Below.refl _ _)
  have zf0 := zf 0
  have zf1 := zf 1
  have zf2 := zf 2
  have zf3 := zf 3
  have zf4 := zf 4
  clear hs hl hr hb hb0 hw0 hs0 hca hcr hlr hs32 hl32 zf
  by_cases hne : df = st
  · subst hne
    have hq : ((nmT df).toList != (nmT df).toList) = false := by simp
    go_enter Tryz.func51, Tryz.ntmps51
    go_upto_region 1 with fail
    rw [W0.out]
    have hbn := below_alloc w0 (.cells #[.string (nmT dt), .slice none 0 0, .int .i64 0, .int .i64 (ix : Int), .slice none 0 0] 114)
    obtain ⟨q0, q1, q2, q3, q4⟩ := cells5 (w := w0) (a := .string (nmT dt)) (b := .slice none 0 0) (c := .int .i64 0) (d := .int .i64 (ix : Int)) (f := .slice none 0 0) (t := 114) _ (Below.refl _ _)
    have qf : ∀ j, (w0.alloc (.cells #[.string (nmT dt), .slice none 0 0, .int .i64 0, .int .i64 (ix : Int), .slice none 0 0] 114)).frozen? ⟨w0.heap.size, j, none⟩ = false := fun j => World.frozen?_alloc_new _ _ _ j
    have N1 := hid (show Nx (w0.alloc (.cells #[.string (nmT dt), .slice none 0 0, .int .i64 0, .int .i64 (ix : Int), .slice none 0 0] 114)) w0.heap.size dt (ix : Int) (.slice none 0 0) (.slice none 0 0) [] [] from ⟨q0, q1, q2, q3, q4, qf 1, qf 4, World.ownsRow_nil _ _ _ _, World.ownsRow_nil _ _ _ _, .inl rfl⟩)
    obtain ⟨w1, hw1⟩ : ∃ w1 : World, w0.alloc (.cells #[.string (nmT dt), .slice none 0 0, .int .i64 0, .int .i64 (ix : Int), .slice none 0 0] 114) = w1 := ⟨_, rfl⟩
    rw [hw1] at hbn N1
    have W1 := hid hw1
    have B1 := hid hbn
    obtain ⟨nb, hnb⟩ : ∃ nb, w0.heap.size = nb := ⟨_, rfl⟩
    have HNB := hid hnb
    rw [hnb] at N1
    clear hbn hw1 hnb q0 q1 q2 q3 q4 qf
    go_upto_region 4 with fail
    rw [W1.out, HNB.out]
    clear x0 x1 y0 y1 y2 y3 z0 z1 z2 z3 z4
    obtain ⟨⟨x0, x1⟩, ⟨y0, y1, y2, y3⟩, ⟨z0, z1, z2, z3, z4⟩, -⟩ := BX.out w1 B1.out
    go_wp2_with fail
    clear x0 x1 y0 y1 y2 y3 z0 z1 z2 z3 z4
    go_loopw [26] (fun x wr => ∃ (j : Nat) (v1 v4 : Value), j ≤ sl.length ∧ x = .int .i64 j ∧ Hid (Nx wr nb dt (ix : Int) v1 v4 ((sl.take j).map (goS (df, dt, dl, dr))) ((sl.take j).map dl.idxOf)) ∧ Hid (∀ a ∈ sl.take j, a ∈ dl) ∧ Below w0.heap.size w0 wr) (fun x _ => sl.length - (intOf x).toNat)
    case atStart => exact ⟨0, _, _, Nat.zero_le _, rfl, N1, hid (by simp), B1.out⟩
    case round =>
      obtain ⟨j, v1, v4, hj, rfl, HN, HM, hnx⟩ := hrel
      have j0 : (0 : Int) ≤ (j : Int) := by omega
      have NX := hid hnx
      obtain ⟨⟨x0, x1⟩, ⟨y0, y1, y2, y3⟩, ⟨z0, z1, z2, z3, z4⟩, zf⟩ := BX.out wr hnx
      have zf0 := zf 0
      have zf1 := zf 1
      have zf2 := zf 2
      have zf3 := zf 3
      have zf4 := zf 4
      have BW := hid (show Below w.heap.size w wr from B0.out.trans (hnx.mono B0.out.size))
      by_cases hlt : j < sl.length
      · have hltI : (j : Int) < (sl.length : Int) := by omega
        obtain ⟨a, ha⟩ := get_some hlt
        obtain ⟨b, off, rfl, hd⟩ := CA.out j a ha
        have e0 := hd wr BW.out
        have I1 := hid (IDX.out a wr hnx)
        have TK := hid (take_next ha)
        have HA := hid ha
        clear hd ha hnx zf
        go_wp2_with fail
        refine I1.out.mono ?_
        rintro e w2 ⟨⟨hin, rfl⟩ | ⟨hin, rfl⟩, hb2⟩
        · have N2 := hid (NX.out.trans (hb2.mono NX.out.size))
          have AF := hid (appS_out (d := (df, dt, dl, dr)) (s := (df, sl)) HA.out hin)
          clear x0 x1 y0 y1 y2 y3 z0 z1 z2 z3 z4 zf0 zf1 zf2 zf3 zf4 hb2 e0
          obtain ⟨-, -, ⟨z0, z1, z2, z3, z4⟩, zf⟩ := BX.out w2 N2.out
          have zf0 := zf 0
          have zf1 := zf 1
          have zf2 := zf 2
          have zf3 := zf 3
          have zf4 := zf 4
          clear zf
          go_wp2_with fail
          obtain ⟨wf, hwf⟩ : ∃ wf : World, ((((w2.setCell ⟨w.heap.size + 1 + 1, 0, none⟩ (.string (ByteArray.mk #[]))).setCell ⟨w.heap.size + 1 + 1, 1, none⟩ (.slice none 0 0)).setCell ⟨w.heap.size + 1 + 1, 2, none⟩ (.int .i64 0)).setCell ⟨w.heap.size + 1 + 1, 3, none⟩ (.int .i64 0)).setCell ⟨w.heap.size + 1 + 1, 4, none⟩ (.slice none 0 0) = wf := ⟨_, rfl⟩
          obtain ⟨r0, r1, r2, r3, r4⟩ := set5I z0 z1 z2 z3 z4 hwf
          have QB : Below w.heap.size w wf := by rw [← hwf]; exact set5_below (B0.out.trans (N2.out.mono B0.out.size)) (by omega)
          rw [hwf]
          exact bodyPost_ret (v := .tuple #[.agg #[.string (ByteArray.mk #[]), .slice none 0 0, .int .i64 0, .int .i64 0, .slice none 0 0], .bool false]) (by simp [results, Tryz.results51, go_sem, r0, r1, r2, r3, r4]) rfl ⟨.inl ⟨AF.out, rfl⟩, QB⟩
        · have N2 := hid (NX.out.trans (hb2.mono NX.out.size))
          have X2 := hid (HN.out.below hb2)
          obtain ⟨p, hp⟩ : ∃ p, dl.idxOf a = p := ⟨_, rfl⟩
          have PL := hid (show p < dl.length by rw [← hp]; exact List.idxOf_lt_length_of_mem hin)
          have HP := hid hp
          have HIN := hid hin
          rw [hp]
          have p0 : (0 : Int) ≤ (p : Int) := by omega
          have p1 : ¬ (p : Int) < 0 := by omega
          have p2 : decide ((p : Int) < 0) = false := by simp
          clear x0 x1 y0 y1 y2 y3 z0 z1 z2 z3 z4 zf0 zf1 zf2 zf3 zf4 hb2 hin hp
          obtain ⟨o4, c4, h4⟩ := own_sliceG X2.out.o4
          subst h4
          obtain ⟨m0, m1, m2, m3, m4, mf1, mf4, -, -, -⟩ := X2.out
          have L4 := hid (show ((sl.take j).map dl.idxOf).length ≤ 32 by rw [List.length_map, List.length_take]; have := HS32.out; omega)
          have S2 := hid (show nb + 1 ≤ w2.heap.size from X2.out.lt)
          obtain ⟨l4, hl4⟩ : ∃ l4, (sl.take j).map dl.idxOf = l4 := ⟨_, rfl⟩
          have HL4 := hid hl4
          rw [hl4] at X2 L4 m4
          clear hl4
          go_wp2_with (at_builtin; refine wpList_pushE rfl _ _ 37 rfl (nb + 1) 3 (.int .i64 0) 8 undInts infoInt rfl (by decide) encI _ l4 rfl (X2.out.o4.alloc _) ⟨w2.heap.size, 0, none⟩ p rfl rfl cell_new (by have := L4.out; omega) (by have := S2.out; simp; omega) ?_)
          intro v5 w3 ho3 hg3 hv3
          have BA2 := below_alloc w2 (.cells #[.int .i64 (p : Int)] 3)
          have XA := X2.out.below BA2
          have g4 := (hg3.cell_far ⟨nb, 4, none⟩ XA.lt (fun e => XA.n4 e.symm)).trans XA.c4
          have gf := (hg3.frozen_far ⟨nb, 4, none⟩ XA.lt (fun e => XA.n4 e.symm)).trans XA.f4
          have P4 := hid (XA.put4 (l' := l4 ++ [p]) (by simpa using ho3) hg3 (by simpa using hv3))
          obtain ⟨o5, c5, h5⟩ := own_sliceG ho3
          subst h5
          have N3 := hid (show Below w0.heap.size w0 (w3.setCell ⟨nb, 4, none⟩ (.slice o5 (l4 ++ [p]).length c5)) from (((N2.out.trans (BA2.mono N2.out.size)).grown hg3 (Nat.le_trans N2.out.size BA2.size) (fun k hk => by have := (XA.o4.lt k hk).1; have := HNB.out; omega)).setCell (p := ⟨nb, 4, none⟩) (by have := HNB.out; show w0.heap.size ≤ nb; omega) _))
          clear ho3 hg3 hv3 XA BA2 m0 m1 m2 m3 m4 mf1 mf4
          go_upto_region 11 with fail
          rw [show l4.length + 1 = (l4 ++ [p]).length by simp]
          obtain ⟨w4, hw4⟩ : ∃ w4 : World, w3.setCell ⟨nb, 4, none⟩ (.slice o5 (l4 ++ [p]).length c5) = w4 := ⟨_, rfl⟩
          rw [show l4.length + 1 = (l4 ++ [p]).length by simp] at P4
          rw [hw4] at P4 N3
          rw [hw4]
          clear g4 gf hw4
          obtain ⟨o1, c1, h1⟩ := own_sliceG P4.out.o1
          subst h1
          obtain ⟨dv, hdv⟩ := get_some (show p < dr.length by have := PL.out; have := HLR.out; omega)
          obtain ⟨rb, roff, rfl, hrd⟩ := CR.out p dv hdv
          have BW4 := hid (show Below w.heap.size w w4 from B0.out.trans (N3.out.mono B0.out.size))
          have er := hrd w4 BW4.out
          have pI : (p : Int) < (dr.length : Int) := by have := PL.out; have := HLR.out; omega
          have GA := hid (show goS (df, dt, dl, dr) a = dv from by
            unfold goS
            show dr.getD (dl.idxOf a) 0 = dv
            rw [HP.out, List.getD_eq_getElem?_getD, hdv]; rfl)
          have L1 := hid (show ((sl.take j).map (goS (df, dt, dl, dr))).length ≤ 32 by rw [List.length_map, List.length_take]; have := HS32.out; omega)
          obtain ⟨l1, hl1⟩ : ∃ l1, (sl.take j).map (goS (df, dt, dl, dr)) = l1 := ⟨_, rfl⟩
          have HL1 := hid hl1
          rw [hl1] at P4 L1
          obtain ⟨m0, m1, m2, m3, m4, mf1, mf4, -, -, -⟩ := P4.out
          have MA := P4.out.below (below_alloc w4 (.cells #[.int .i64 (dv : Int)] 3))
          obtain ⟨a0, a1, a2, a3, a4, af1, af4, -, -, -⟩ := MA
          have MD := hid (show Nx (w4.drew.alloc (.cells #[.int .i64 (dv : Int)] 3)) nb dt (ix : Int) (.slice o1 l1.length c1) (.slice o5 (l4 ++ [p]).length c5) l1 (l4 ++ [p]) from P4.out.below ((Below.refl _ _).drew.alloc (by simp) _))
          have BD := hid (show Below w4.heap.size w4 (w4.drew.alloc (.cells #[.int .i64 (dv : Int)] 3)) from (Below.refl _ _).drew.alloc (by simp) _)
          have S4 := hid (show nb + 1 ≤ (w4.drew.alloc (.cells #[.int .i64 (dv : Int)] 3)).heap.size from MD.out.lt)
          have CN := hid (show (w4.drew.alloc (.cells #[.int .i64 (dv : Int)] 3)).cell? ⟨w4.heap.size, 0, none⟩ = some (encI dv) from cell_new (w := w4.drew))
          obtain ⟨-, ⟨y0, y1, y2, y3⟩, -, -⟩ := BX.out w4 N3.out
          obtain ⟨-, ⟨u0, u1, u2, u3⟩, -, -⟩ := BX.out (w4.alloc (.cells #[.int .i64 (dv : Int)] 3)) (N3.out.trans ((below_alloc w4 _).mono N3.out.size))
          have er2 := ((below_alloc w4 (.cells #[.int .i64 (dv : Int)] 3)).cell (p := ⟨rb, roff + p, none⟩) (World.block_lt_of_cell? _ _ er)).trans er
          clear hdv hrd hl1
          go_region_law (first
            | ((refine step_pushE (by rfl) _ _ 37 (by rfl) (nb + 1) 3 (.int .i64 0) 8 undInts infoInt rfl (by decide) encI (.slice o1 l1.length c1) l1 (by rfl) MD.out.o1 ⟨w4.heap.size, 0, none⟩ dv rfl (by rfl) CN.out (by have := L1.out; omega) S4.out ?_; intro v6 w5 ho5 hg5 hv5; obtain ⟨o6, c6, rfl⟩ := own_sliceG ho5; have g1 := (hg5.cell_far ⟨nb, 1, none⟩ MD.out.lt (fun e => MD.out.n1 e.symm)).trans MD.out.c1; have gf := (hg5.frozen_far ⟨nb, 1, none⟩ MD.out.lt (fun e => MD.out.n1 e.symm)).trans MD.out.f1)))
          all_goals
            have P6 := hid (MD.out.put1 (l' := l1 ++ [dv]) ho5 hg5 hv5)
            have N6 := hid (show Below w0.heap.size w0 (w5.setCell ⟨nb, 1, none⟩ (.slice o6 (l1 ++ [dv]).length c6)) from (((N3.out.trans (BD.out.mono N3.out.size)).grown hg5 (Nat.le_trans N3.out.size BD.out.size) (fun k hk => by have := (MD.out.o1.lt k hk).1; have := HNB.out; omega)).setCell (p := ⟨nb, 1, none⟩) (by have := HNB.out; show w0.heap.size ≤ nb; omega) _))
            have FN := hid (show Nx (w5.setCell ⟨nb, 1, none⟩ (.slice o6 (l1 ++ [dv]).length c6)) nb dt (ix : Int) (.slice o6 (l1 ++ [dv]).length c6) (.slice o5 (l4 ++ [p]).length c5) ((sl.take (j + 1)).map (goS (df, dt, dl, dr))) ((sl.take (j + 1)).map dl.idxOf) from by
              rw [TK.out, List.map_append, List.map_append, HL1.out, HL4.out]
              show Nx _ _ _ _ _ _ (l1 ++ [goS (df, dt, dl, dr) a]) (l4 ++ [dl.idxOf a])
              rw [GA.out, HP.out]
              exact P6.out)
            have HM6 := hid (show ∀ x ∈ sl.take (j + 1), x ∈ dl from fun x hx => by
              rw [TK.out, List.mem_append, List.mem_singleton] at hx
              rcases hx with hx | rfl
              · exact HM.out x hx
              · exact HIN.out)
            clear ho5 hg5 hv5 g1 gf
            go_wp2_with fail
            rw [show l1.length + 1 = (l1 ++ [dv]).length by simp]
            go_roundw
            case rel => exact ⟨j + 1, _, _, by omega, by go_num, FN, HM6, N6.out⟩
            case measure => simp [intOf]; omega
      · have hltI : ¬ (j : Int) < (sl.length : Int) := by omega
        have hte : sl.take j = sl := List.take_of_length_le (by omega)
        rw [hte] at HN HM
        have X2 := HN.out
        obtain ⟨o1, c1, h1⟩ := own_sliceG X2.o1
        obtain ⟨o4, c4, h4⟩ := own_sliceG X2.o4
        subst h1 h4
        have AT := hid (show appS (df, dt, dl, dr) (df, sl) = true from by
          unfold appS
          rw [Bool.and_eq_true, List.all_eq_true]
          exact ⟨by simp, fun a ha => by simpa using HM.out a ha⟩)
        obtain ⟨m0, m1, m2, m3, m4, mf1, mf4, -, -, -⟩ := X2
        have RD := hid (show RdE encI wr (.slice o1 ((sl.map (goS (df, dt, dl, dr))).length) c1) (sl.map (goS (df, dt, dl, dr))) from RdE.of_owns HN.out.o1 (by rw [List.length_map]; have := HS32.out; omega))
        have FA := hid (show ∀ k, k ≤ nb → FarV (.slice o1 ((sl.map (goS (df, dt, dl, dr))).length) c1) (some k) from fun k hk => far_lo HN.out.o1 (by omega))
        obtain ⟨n1, hn1⟩ : ∃ n, (sl.map (goS (df, dt, dl, dr))).length = n := ⟨_, rfl⟩
        obtain ⟨n4, hn4⟩ : ∃ n, (sl.map dl.idxOf).length = n := ⟨_, rfl⟩
        rw [hn1] at m1 RD FA
        rw [hn4] at m4
        clear zf hte hn1 hn4
        go_wp2_with fail
        obtain ⟨wf, hwf⟩ : ∃ wf : World, ((((wr.setCell ⟨w.heap.size + 1 + 1, 0, none⟩ (.string (nmT dt))).setCell ⟨w.heap.size + 1 + 1, 1, none⟩ (.slice o1 n1 c1)).setCell ⟨w.heap.size + 1 + 1, 2, none⟩ (.int .i64 0)).setCell ⟨w.heap.size + 1 + 1, 3, none⟩ (.int .i64 (ix : Int))).setCell ⟨w.heap.size + 1 + 1, 4, none⟩ (.slice o4 n4 c4) = wf := ⟨_, rfl⟩
        obtain ⟨r0, r1, r2, r3, r4⟩ := set5I z0 z1 z2 z3 z4 hwf
        have QB : Below w.heap.size w wf := by rw [← hwf]; exact set5_below BW.out (by omega)
        have QR : RdE encI wf (.slice o1 n1 c1) (sl.map (goS (df, dt, dl, dr))) := by
          have f2 := FA.out (w.heap.size + 1 + 1) (by have := HNB.out; have := HS0.out; omega)
          rw [← hwf]
          exact RdE.setFar (p := ⟨w.heap.size + 1 + 1, 4, none⟩) (RdE.setFar (p := ⟨w.heap.size + 1 + 1, 3, none⟩) (RdE.setFar (p := ⟨w.heap.size + 1 + 1, 2, none⟩) (RdE.setFar (p := ⟨w.heap.size + 1 + 1, 1, none⟩) (RdE.setFar (p := ⟨w.heap.size + 1 + 1, 0, none⟩) RD.out f2) f2) f2) f2) f2
        rw [hwf]
        exact bodyPost_ret (v := .tuple #[.agg #[.string (nmT dt), .slice o1 n1 c1, .int .i64 0, .int .i64 (ix : Int), .slice o4 n4 c4], .bool true]) (by simp [results, Tryz.results51, go_sem, r0, r1, r2, r3, r4]) rfl ⟨.inr ⟨AT.out, o1, n1, c1, o4, n4, c4, rfl, QR, fun k hk => FA.out k (by have := HNB.out; have := HS0.out; omega)⟩, QB⟩
  · have hq : ((nmT st).toList != (nmT df).toList) = true := by
      rw [bne_iff_ne]
      intro e
      exact hne (nmT_inj hd1 hs1 (bytes_ext e).symm)
    have hq2 : ((nmT st).toList == (nmT df).toList) = false := by rw [beq_eq_false_iff_ne]; exact (bne_iff_ne.1 hq)
    have hq3 : ¬ (nmT st).toList = (nmT df).toList := bne_iff_ne.1 hq
    have hq4 : ¬ nmT st = nmT df := fun e => hq3 (by rw [e])
    have AF := hid (show appS (df, dt, dl, dr) (st, sl) = false from appS_neg hne)
    go_enter Tryz.func51, Tryz.ntmps51
    go_upto_region 1 with fail
    rw [W0.out]
    go_wp2_with fail
    obtain ⟨wf, hwf⟩ : ∃ wf : World, ((((w0.setCell ⟨w.heap.size + 1 + 1, 0, none⟩ (.string (ByteArray.mk #[]))).setCell ⟨w.heap.size + 1 + 1, 1, none⟩ (.slice none 0 0)).setCell ⟨w.heap.size + 1 + 1, 2, none⟩ (.int .i64 0)).setCell ⟨w.heap.size + 1 + 1, 3, none⟩ (.int .i64 0)).setCell ⟨w.heap.size + 1 + 1, 4, none⟩ (.slice none 0 0) = wf := ⟨_, rfl⟩
    obtain ⟨r0, r1, r2, r3, r4⟩ := set5I z0 z1 z2 z3 z4 hwf
    have QB : Below w.heap.size w wf := by rw [← hwf]; exact set5_below B0.out (by omega)
    rw [hwf]
    exact bodyPost_ret (v := .tuple #[.agg #[.string (ByteArray.mk #[]), .slice none 0 0, .int .i64 0, .int .i64 0, .slice none 0 0], .bool false]) (by simp [results, Tryz.results51, go_sem, r0, r1, r2, r3, r4]) rfl ⟨.inl ⟨AF.out, rfl⟩, QB⟩

end Go.Proofs.YtgahpgmagfngfaaGreatDoor

