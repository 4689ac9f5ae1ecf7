/- Texts that belong together, in one file. -/
import Derived.Test.YtgahpgmagfngfaaGreatDoorGTabA
import Derived.Test.YtgahpgmagfngfaaGreatDoorGOrd
import Derived.Test.YtgahpgmagfngfaaGreatDoorGSort
import Derived.Lib.SliceRun
import Derived.StillTailTactics
/- The walk of agree.Sets: the different agree sets with their numbers of pairs. -/
namespace Go.Proofs.YtgahpgmagfngfaaGreatDoor
open Go.RowKit

/-- The cells of a set with a number. -/
abbrev C2 := S × Int
def cC (x : C2) : List Value := [enc x.1, .int .i64 x.2]
theorem cC_length (x : C2) : (cC x).length = 2 := rfl
abbrev RdCt (w : World) (v : Value) (xs : List C2) : Prop := RdC cC w v xs

theorem own_grown2 {w w' : World} {B b : Nat} {e : TypeId} {size n : Nat} {v : Value} {xs : List Value} (h : w.ownsRow B e size v n xs) (hg : w.grownBy w' (some b)) (hb : b < B) : w'.ownsRow B e size v n xs := by
  refine ⟨h.1, ?_⟩
  rcases h.2 with h' | ⟨g, cap, cur, hv, hgB, hc, rest⟩
  · exact .inl h'
  · exact .inr ⟨g, cap, cur, hv, hgB, (hg.block g (Array.getElem?_eq_some_iff.1 hc).1 (by intro e; cases e; omega)).trans hc, rest⟩



end Go.Proofs.YtgahpgmagfngfaaGreatDoor


/- The walk of agree.without: the agree sets without an attribute. -/
namespace Go.Proofs.YtgahpgmagfngfaaGreatDoor
open Go.RowKit




end Go.Proofs.YtgahpgmagfngfaaGreatDoor


/- slices.DeleteFunc over a row of the call's own at a function value that makes memory, and attrset's keep, Minimal and Maximal. -/
namespace Go.Proofs.YtgahpgmagfngfaaGreatDoor
open Go.RowKit

theorem own_take {w : World} {B g n cap k : Nat} {e : TypeId} {xs : List Value} (h : w.ownsRow B e 1 (.slice (some ⟨g, 0, none⟩) n cap) n xs) (hk : k ≤ n) : w.ownsRow B e 1 (.slice (some ⟨g, 0, none⟩) k cap) k (xs.take k) := by
  have hl : xs.length = n * 1 := h.1
  refine ⟨by rw [List.length_take]; omega, ?_⟩
  rcases h.2 with ⟨h1, _⟩ | ⟨g', cap', cur, hv, hB, hg, hnc, hcm, hcs, htake⟩
  · cases h1
  · simp only [Value.slice.injEq, Option.some.injEq, Addr.mk.injEq] at hv
    obtain ⟨⟨rfl, -, -⟩, -, rfl⟩ := hv
    refine .inr ⟨g, cap, cur, rfl, hB, hg, by omega, hcm, hcs, ?_⟩
    rw [← htake, List.take_take, Nat.mul_one, Nat.mul_one, Nat.min_eq_left hk]
theorem own_setCells {B g n cap : Nat} {e : TypeId} : ∀ (vs : List Value) (o : Nat) (w : World) (xs : List Value), w.ownsRow B e 1 (.slice (some ⟨g, 0, none⟩) n cap) n xs → ∃ xs', (w.setCells g o vs).ownsRow B e 1 (.slice (some ⟨g, 0, none⟩) n cap) n xs' ∧ xs'.take o = xs.take o := by
  intro vs
  induction vs with
  | nil => intro o w xs h; exact ⟨xs, h, rfl⟩
  | cons u vs ih =>
    intro o w xs h
    obtain ⟨xs', h1, h2⟩ := ih (o + 1) _ _ (h.stored o u).1
    refine ⟨xs', h1, ?_⟩
    have := congrArg (List.take o) h2
    rw [List.take_take, List.take_take, Nat.min_eq_left (by omega)] at this
    rw [this, List.take_set_of_le (Nat.le_refl _)]

theorem below_cells {B : Nat} {a : World} (b : Nat) (hb : B ≤ b) : ∀ (vs : List Value) (o : Nat) {w : World}, Below B a w → Below B a (w.setCells b o vs) := by
  intro vs
  induction vs with
  | nil => intro o w h; exact h
  | cons u vs ih => intro o w h; exact ih (o + 1) (h.setCell (p := ⟨b, o, none⟩) hb u)

def IdxPost (p : S → Bool) (xs : List S) (w : World) (e : Ending) (w' : World) : Prop :=
  Below w.heap.size w w' ∧ ((e = .returned (.int .i64 (-1)) ∧ xs.any p = false) ∨ ∃ k, k < xs.length ∧ e = .returned (.int .i64 (k : Int)) ∧ (xs.take k).any p = false ∧ ∀ x, xs[k]? = some x → p x = true)
/-- IndexFunc at a function value that may make memory. -/
theorem indexFuncM_any (g : Nat) (cb : Array Value) (p : S → Bool) (xs : List S) (v : Value) (w w0 : World) (hb : Below w0.heap.size w0 w) (hv : RdE enc w v xs)
    (eg : ∀ (args : Array Value) (w : World), (callFunc g args).run Tryz.prog w = .ok (.enter g args) w)
    (hg : ∀ (x : S) (W : World), Below w0.heap.size w0 W → Calls Tryz.prog g (#[enc x] ++ cb) W fun e w' => e = .returned (.bool (p x)) ∧ Below W.heap.size W w') :
    Calls Tryz.prog 107 #[v, .func (.func g) #[] cb] w (IdxPost p xs w) := by
  obtain ⟨ao, cap, rfl, h2, hc⟩ := hv.split
  have HC := hid hc
  unfold enc at hg
  have G := hid hg
  have HB := hid hb
  have hs0 := hb.size
  clear hg hc hv hb
  go_enter Tryz.func107, Tryz.ntmps107
  go_wp2
  go_loopw [5, 8] (fun _ i wr => ∃ k : Nat, k ≤ xs.length ∧ i = .int .i64 k ∧ Hid ((xs.take k).any p = false) ∧ Below w.heap.size w wr) (fun _ i _ => xs.length - (intOf i).toNat)
  case atStart => exact ⟨0, Nat.zero_le _, rfl, hid rfl, Below.refl _ _⟩
  case round =>
    obtain ⟨k, hk, rfl, H, hnx⟩ := hrel
    have NX := hid hnx
    have hsz := hnx.size
    clear hnx
    by_cases hlt : k < xs.length
    · obtain ⟨x, hx⟩ := get_some hlt
      obtain ⟨b, off, rfl, hd⟩ := HC.out k x hx
      have e1 : wr.cell? ⟨b, off + k, none⟩ = some (.int .u32 (iv x)) := hd wr NX.out
      have X := hid hx
      have G1 := hid (G.out x wr (HB.out.trans (NX.out.mono hs0)))
      clear hd hx
      cases hp : p x with
      | true =>
        rw [hp] at G1
        have P1 := hid hp
        clear hp
        go_wp2_with (go_at_fn g; refine G1.out.mono ?_; rintro e w2 ⟨rfl, hb2⟩)
        have B2 := hid (NX.out.trans (hb2.mono hsz))
        clear hb2
        go_ret
        exact ⟨B2.out, .inr ⟨k, hlt, rfl, H.out, fun y hy => by rw [X.out] at hy; cases hy; exact P1.out⟩⟩
      | false =>
        rw [hp] at G1
        have P1 := hid hp
        clear hp
        go_wp2_with (go_at_fn g; refine G1.out.mono ?_; rintro e w2 ⟨rfl, hb2⟩)
        have B2 := hid (NX.out.trans (hb2.mono hsz))
        clear hb2
        go_roundw
        case rel => exact ⟨k + 1, by omega, by go_num, hid (none_next X.out P1.out H.out), B2.out⟩
        case measure => simp [intOf]; omega
    · go_wp2
      go_ret
      exact ⟨NX.out, .inl ⟨rfl, any_end H.out hlt⟩⟩

/-- The row while DeleteFunc is at its work. -/
structure Del (p : S → Bool) (xs : List S) (i j : Nat) (dk : List S) : Prop where
  size : dk.length = xs.length
  lt : i < j
  low : dk.take i = (xs.take j).filter (fun x => !p x)
  high : ∀ t, j ≤ t → dk[t]? = xs[t]?
theorem none_filter {p : S → Bool} {xs : List S} (h : xs.any p = false) : xs.filter (fun x => !p x) = xs := by
  rw [List.filter_eq_self]
  intro x hx
  rw [List.any_eq_false] at h
  simp [h x hx]
theorem Del.start {p : S → Bool} {xs : List S} {k : Nat} {x : S} (hx : xs[k]? = some x) (h : (xs.take k).any p = false) (hp : p x = true) : Del p xs k (k + 1) xs :=
  ⟨rfl, by omega, by rw [take_next hx, List.filter_append, none_filter h]; simp [hp], fun _ _ => rfl⟩
theorem Del.keep {p : S → Bool} {xs dk : List S} {i j : Nat} {x : S} (h : Del p xs i j dk) (hx : xs[j]? = some x) (hp : p x = false) : Del p xs (i + 1) (j + 1) (dk.set i x) := by
  have hj := (List.getElem?_eq_some_iff.1 hx).1
  have hi : i < dk.length := by have := h.size; have := h.lt; omega
  refine ⟨by rw [List.length_set]; exact h.size, by have := h.lt; omega, ?_, fun t ht => ?_⟩
  · rw [take_next hx, List.filter_append, ← h.low, take_next (x := x) (by rw [List.getElem?_set_self hi]), List.take_set_of_le (Nat.le_refl _)]
    simp [hp]
  · rw [List.getElem?_set_ne (by have := h.lt; omega)]
    exact h.high t (by omega)
theorem Del.skip {p : S → Bool} {xs dk : List S} {i j : Nat} {x : S} (h : Del p xs i j dk) (hx : xs[j]? = some x) (hp : p x = true) : Del p xs i (j + 1) dk :=
  ⟨h.size, by have := h.lt; omega, by rw [take_next hx, List.filter_append, ← h.low]; simp [hp], fun t ht => h.high t (by omega)⟩

set_option maxHeartbeats 1600000 in
theorem deleteFunc_any (g : Nat) (cb : Array Value) (p : S → Bool) (xs : List S) (v : Value) (w w0 : World) (hb : Below w0.heap.size w0 w) (hown : w.ownsRow w0.heap.size 55 1 v xs.length (xs.map enc)) (hl : xs.length < 17592186044416)
    (eg : ∀ (args : Array Value) (w : World), (callFunc g args).run Tryz.prog w = .ok (.enter g args) w)
    (hg : ∀ (x : S) (W : World), Below w0.heap.size w0 W → Calls Tryz.prog g (#[enc x] ++ cb) W fun e w' => e = .returned (.bool (p x)) ∧ Below W.heap.size W w') :
    Calls Tryz.prog 89 #[v, .func (.func g) #[] cb] w fun e w' => ∃ v', e = .returned v' ∧ w'.ownsRow w0.heap.size 55 1 v' (xs.filter (fun x => !p x)).length ((xs.filter (fun x => !p x)).map enc) ∧ Below w0.heap.size w0 w' := by
  have IX := hid (indexFuncM_any g cb p xs v w w0 hb (RdE.of_owns hown (by omega)) eg hg)
  unfold enc at hg
  have G := hid hg
  have HB := hid hb
  have hs0 := hb.size
  have HO := hid hown
  obtain ⟨ao, cap, rfl, -⟩ := (RdE.of_owns hown (by omega)).split
  clear hg hb hown
  go_enter Tryz.func89, Tryz.ntmps89
  go_wp2_with fail
  refine IX.out.mono ?_
  rintro e w1 ⟨hb1, ⟨rfl, hnone⟩ | ⟨k0, hk0, rfl, hfirst, hhit⟩⟩
  · have NF := hid (none_filter hnone)
    have HO1 := hid (own_below HO.out hb1)
    have B1 := hid (HB.out.trans (hb1.mono hs0))
    clear hnone hb1
    go_wp2_with fail
    go_ret
    exact ⟨_, rfl, by rw [NF.out]; exact HO1.out, B1.out⟩
  · obtain ⟨x0, hx0⟩ := get_some hk0
    have D0 := hid (Del.start hx0 hfirst (hhit x0 hx0))
    obtain ⟨gb, gcap, hform⟩ : ∃ gb gcap, Value.slice ao xs.length cap = .slice (some ⟨gb, 0, none⟩) xs.length gcap := by
      rcases HO.out.2 with ⟨h1, h2⟩ | ⟨g', cap', cur, hv, _⟩
      · omega
      · exact ⟨g', cap', hv⟩
    simp only [Value.slice.injEq] at hform
    obtain ⟨rfl, -, rfl⟩ := hform
    have HO1 := hid (own_below HO.out hb1)
    have B1 := hid (HB.out.trans (hb1.mono hs0))
    have hkne : ((k0 : Int) == -1) = false := beq_eq_false_iff_ne.2 (by omega)
    have hgb := HO1.out.lt gb rfl
    have hcapn : xs.length ≤ cap := by
      rcases HO.out.2 with ⟨h1, _⟩ | ⟨g', cap', cur, hv, _, _, hnc, _⟩
      · cases h1
      · simp only [Value.slice.injEq] at hv; omega
    clear hfirst hhit hx0 hb1
    have k00 : (0 : Int) ≤ (k0 : Int) := by omega
    go_wp2_with fail
    go_loopw [5, 6] (fun i j wr => ∃ (a b : Nat) (dk : List S), b ≤ xs.length ∧ i = .int .i64 a ∧ j = .int .i64 b ∧ Hid (Del p xs a b dk) ∧ wr.ownsRow w0.heap.size 55 1 (.slice (some ⟨gb, 0, none⟩) xs.length cap) xs.length (dk.map enc) ∧ Below w0.heap.size w0 wr) (fun _ j _ => xs.length - (intOf j).toNat)
    case atStart => exact ⟨k0, k0 + 1, xs, by omega, rfl, by go_num, D0, HO1.out, B1.out⟩
    case round =>
      obtain ⟨a, b, dk, hbl, rfl, rfl, D, hown, hnx⟩ := hrel
      have hsz := hnx.size
      have hab := D.out.lt
      have hdl := D.out.size
      have b0 : (0 : Int) ≤ (b : Int) := by omega
      have a0 : (0 : Int) ≤ (a : Int) := by omega
      by_cases hlt : b < xs.length
      · obtain ⟨x, hx⟩ := get_some hlt
        have hxd : dk[b]? = some x := by rw [D.out.high b (Nat.le_refl _), hx]
        have e1 : wr.cell? ⟨gb, b, none⟩ = some (.int .u32 (iv x)) := by
          rw [hown.cellAt b (by omega), List.getElem?_map, hxd]; rfl
        have G1 := hid (G.out x wr hnx)
        have HO2 := hid hown
        have NX := hid hnx
        cases hp : p x with
        | true =>
          rw [hp] at G1
          have D2 := hid (D.out.skip hx hp)
          clear hp hown hnx hx hxd
          go_wp2_with (go_at_fn g; refine G1.out.mono ?_; rintro e w2 ⟨rfl, hb2⟩)
          have HO3 := hid (own_below HO2.out hb2)
          have NX3 := hid (NX.out.trans (hb2.mono hsz))
          clear hb2
          go_roundw
          case rel => exact ⟨a, b + 1, dk, by omega, rfl, by go_num, D2, HO3.out, NX3.out⟩
          case measure => simp [intOf]; omega
        | false =>
          rw [hp] at G1
          have D2 := hid (D.out.keep hx hp)
          obtain ⟨y, hy⟩ := get_some (show a < dk.length by omega)
          have OY := hid (show (dk.map enc)[a]? = some (.int .u32 (iv y)) by rw [List.getElem?_map, hy]; rfl)
          clear hp hown hnx hx hxd hy
          go_wp2_with (go_at_fn g; refine G1.out.mono ?_; rintro e w2 ⟨rfl, hb2⟩; have HO3 := hid (own_below HO2.out hb2); have NX3 := hid (NX.out.trans (hb2.mono hsz)); clear hb2; have hcell : w2.cell? ⟨gb, a, none⟩ = some (.int .u32 (iv y)) := (HO3.out.cellAt a (by omega)).trans OY.out; have hfz : w2.frozen? ⟨gb, a, none⟩ = false := HO3.out.frozenAt _)
          have ST := HO3.out.stored a (.int .u32 (iv x))
          have S1 := hid (show (w2.setCell ⟨gb, a, none⟩ (.int .u32 (iv x))).ownsRow w0.heap.size 55 1 (.slice (some ⟨gb, 0, none⟩) xs.length cap) xs.length ((dk.set a x).map enc) by rw [List.map_set]; exact ST.1)
          have S2 := hid (NX3.out.grown ST.2 NX3.out.size (fun j hj => by cases hj; exact hgb.1))
          clear ST hcell hfz
          go_roundw
          case rel => exact ⟨a + 1, b + 1, dk.set a x, by omega, by go_num, by go_num, D2, S1.out, S2.out⟩
          case measure => simp [intOf]; omega
      · have hbn : b = xs.length := by omega
        have han : a < xs.length := by omega
        have hlow := D.out.low
        rw [hbn, List.take_of_length_le (Nat.le_refl _)] at hlow
        have hfl : (xs.filter (fun x => !p x)).length = a := by rw [← hlow, List.length_take]; omega
        have hcl : ∀ ty, (Builtin.clear_ #[59] ty #[.slice (some ⟨gb, a, none⟩) (xs.length - a) (cap - a)]).run Tryz.prog wr = .ok (.tuple #[]) (wr.setCells gb a (List.replicate (xs.length - a) (.int .u32 0))) := fun ty => Lib.run_clear_slice wr _ _ ty _ undSets (fun w => Tryz.zeroValue55 w) rfl rfl gb a _ _ (by omega)
          (fun t ht => by
            obtain ⟨y, hy⟩ := get_some (show a + t < dk.length by omega)
            rw [hown.cellAt (a + t) (by omega), List.getElem?_map, hy]; rfl)
          (fun t _ => hown.frozenAt _)
        obtain ⟨xs', h1, h2⟩ := own_setCells (List.replicate (xs.length - a) (.int .u32 0)) a wr _ hown
        have h3 := own_take h1 (k := a) (by omega)
        have FIN := hid (show (wr.setCells gb a (List.replicate (xs.length - a) (.int .u32 0))).ownsRow w0.heap.size 55 1 (.slice (some ⟨gb, 0, none⟩) a cap) (xs.filter (fun x => !p x)).length ((xs.filter (fun x => !p x)).map enc) by
          rw [h2, ← List.map_take, hlow] at h3
          rw [hfl]; exact h3)
        have BF := hid (below_cells gb hgb.1 (List.replicate (xs.length - a) (.int .u32 0)) a hnx)
        have D3 := hid D.out
        clear hlow hfl h1 h2 h3 hown hnx D hbn hdl
        go_wp2_with fail
        go_ret
        exact ⟨_, rfl, FIN.out, BF.out⟩

/-! attrset's keep, Minimal, Maximal. -/
theorem amaximal1_any (a b : S) (w : World) : Calls Tryz.prog 59 #[enc a, enc b] w fun e w' => e = .returned (.bool (upR a b)) ∧ w = w' := by
  unfold enc upR
  go_enter Tryz.func59, Tryz.ntmps59
  go_wp2
  go_ret
  exact ⟨rfl, rfl⟩

/-- The inner test of keep. -/
theorem keep11_any (f : Nat) (r : S → S → Bool) (a b : S) (ba bw : Nat) (w : World) (hca : w.cell? ⟨ba, 0, none⟩ = some (enc a)) (hcw : w.cell? ⟨bw, 0, none⟩ = some (.func (.func f) #[] #[]))
    (eg : ∀ (args : Array Value) (w : World), (callFunc f args).run Tryz.prog w = .ok (.enter f args) w)
    (hf : ∀ (a b : S) (w : World), Calls Tryz.prog f #[enc a, enc b] w fun e w' => e = .returned (.bool (r a b)) ∧ w = w') :
    Calls Tryz.prog 92 (#[enc b] ++ #[.pointer (some ⟨ba, 0, none⟩), .pointer (some ⟨bw, 0, none⟩)]) w fun e w' => e = .returned (.bool (a != b && r a b)) ∧ w = w' := by
  show Calls Tryz.prog 92 #[enc b, .pointer (some ⟨ba, 0, none⟩), .pointer (some ⟨bw, 0, none⟩)] w _
  have C := hid (hf a b w)
  unfold enc at hca C ⊢
  clear hf
  cases hq : (a != b) with
  | false =>
    rw [Bool.false_and]
    go_enter Tryz.func92, Tryz.ntmps92
    go_wp2
    go_ret
    exact ⟨rfl, rfl⟩
  | true =>
    rw [Bool.true_and]
    go_enter Tryz.func92, Tryz.ntmps92
    go_wp2_with (go_at_fn f; refine C.out.mono ?_; rintro e w' ⟨rfl, rfl⟩)
    go_ret
    exact ⟨rfl, rfl⟩
theorem keep1_any (f : Nat) (r : S → S → Bool) (ys : List S) (a : S) (vy : Value) (bl bw : Nat) (w : World) (hr : RdE enc w vy ys) (hcl : w.cell? ⟨bl, 0, none⟩ = some vy) (hcw : w.cell? ⟨bw, 0, none⟩ = some (.func (.func f) #[] #[]))
    (eg : ∀ (args : Array Value) (w : World), (callFunc f args).run Tryz.prog w = .ok (.enter f args) w)
    (hf : ∀ (a b : S) (w : World), Calls Tryz.prog f #[enc a, enc b] w fun e w' => e = .returned (.bool (r a b)) ∧ w = w') :
    Calls Tryz.prog 91 (#[enc a] ++ #[.pointer (some ⟨bl, 0, none⟩), .pointer (some ⟨bw, 0, none⟩)]) w fun e w' => e = .returned (.bool (ys.any fun b => a != b && r a b)) ∧ Below w.heap.size w w' := by
  show Calls Tryz.prog 91 #[enc a, .pointer (some ⟨bl, 0, none⟩), .pointer (some ⟨bw, 0, none⟩)] w _
  have hb := below_alloc w (.cells #[enc a] 55)
  have hcw' := (hb.cell (p := ⟨bw, 0, none⟩) (World.block_lt_of_cell? _ _ hcw)).trans hcw
  have G := hid (containsFunc_any 92 #[.pointer (some ⟨w.heap.size, 0, none⟩), .pointer (some ⟨bw, 0, none⟩)] (fun b => a != b && r a b) ys vy _ (hr.below hb)
    (enters _ _ _ Tryz.func92 (by kernel_rfl) rfl) (fun b => keep11_any f r a b _ bw _ cell_new hcw' eg hf))
  obtain ⟨ao, cap, rfl, -⟩ := hr
  have hcl' := (hb.cell (p := ⟨bl, 0, none⟩) (World.block_lt_of_cell? _ _ hcl)).trans hcl
  unfold enc at hb G hcl' hcw' ⊢
  clear hcl hcw hf eg
  go_enter Tryz.func91, Tryz.ntmps91
  go_wp2_with fail
  refine G.out.mono ?_
  rintro e w2 ⟨rfl, rfl⟩
  go_wp2_with fail
  go_ret
  exact ⟨rfl, hb⟩

set_option maxHeartbeats 800000 in
theorem keep_any (f : Nat) (r : S → S → Bool) (xs : List S) (v : Value) (w : World) (hv : RdE enc w v xs) (h44 : xs.length < 17592186044416)
    (eg : ∀ (args : Array Value) (w : World), (callFunc f args).run Tryz.prog w = .ok (.enter f args) w)
    (hf : ∀ (a b : S) (w : World), Calls Tryz.prog f #[enc a, enc b] w fun e w' => e = .returned (.bool (r a b)) ∧ w = w') :
    Calls Tryz.prog 58 #[v, .func (.func f) #[] #[]] w fun e w' => ∃ v', e = .returned v' ∧ w'.ownsRow w.heap.size 55 1 v' (keepS r xs).length ((keepS r xs).map enc) ∧ Below w.heap.size w w' := by
  have hb0 := below_alloc w (.cells #[.func (.func f) #[] #[]] 125)
  have CO := hid (aorder_any xs v _ (hv.below hb0) h44)
  have hcw0 : (w.alloc (.cells #[.func (.func f) #[] #[]] 125)).cell? ⟨w.heap.size, 0, none⟩ = some (.func (.func f) #[] #[]) := by simp
  obtain ⟨w0, hw0⟩ : ∃ w0 : World, w.alloc (.cells #[.func (.func f) #[] #[]] 125) = w0 := ⟨_, rfl⟩
  rw [hw0] at hb0 CO hcw0
  have B0 := hid hb0
  have W0 := hid hw0
  have hs0 := hb0.size
  obtain ⟨ao, cap, rfl, -⟩ := hv
  clear hb0 hw0
  go_enter Tryz.func58, Tryz.ntmps58
  go_wp2_with fail
  rw [W0.out]
  go_wp2_with fail
  refine CO.out.mono ?_
  rintro e w1 ⟨v1, ys, rfl, hown, hord, hyl, hb1⟩
  have hys := ordS_of hord (fun _ => Iff.rfl)
  have KS := hid (show keepS r xs = ys.filter (fun a => !ys.any fun b => a != b && r a b) by unfold keepS; rw [← hys])
  have R1 := RdE.of_owns hown (by omega)
  obtain ⟨yo, ycap, rfl, -⟩ := R1.split
  have hcw1 : w1.cell? ⟨w.heap.size, 0, none⟩ = some (.func (.func f) #[] #[]) := (hb1.cell (p := ⟨w.heap.size, 0, none⟩) (World.block_lt_of_cell? _ _ hcw0)).trans hcw0
  have hb2 := below_alloc w1 (.cells #[.slice yo ys.length ycap] 59)
  have hcl2 : (w1.alloc (.cells #[.slice yo ys.length ycap] 59)).cell? ⟨w1.heap.size, 0, none⟩ = some (.slice yo ys.length ycap) := by simp
  have hcw2 := (hb2.cell (p := ⟨w.heap.size, 0, none⟩) (World.block_lt_of_cell? _ _ hcw1)).trans hcw1
  have R2 := R1.below hb2
  have B1 := hid (B0.out.trans (hb1.mono hs0))
  have B2 := hid (B1.out.trans (hb2.mono B1.out.size))
  have CL := hid (clone_any ys _ _ R2 (by omega))
  obtain ⟨w2, hw2⟩ : ∃ w2 : World, w1.alloc (.cells #[.slice yo ys.length ycap] 59) = w2 := ⟨_, rfl⟩
  rw [hw2] at hcl2 hcw2 R2 B2 CL
  have W2 := hid hw2
  have K1 := hid (fun (a : S) (W : World) (h : Below w2.heap.size w2 W) => keep1_any f r ys a _ w1.heap.size w.heap.size W (R2.below h) ((h.cell (p := ⟨w1.heap.size, 0, none⟩) (World.block_lt_of_cell? _ _ hcl2)).trans hcl2) ((h.cell (p := ⟨w.heap.size, 0, none⟩) (World.block_lt_of_cell? _ _ hcw2)).trans hcw2) eg hf)
  have hs2 := B2.out.size
  clear hown hord hys R1 hcw1 hb2 hb1 hw2 hcw2 R2 hcw0 hf eg
  go_wp2_with fail
  rw [W2.out]
  go_wp2_with fail
  refine CL.out.mono ?_
  rintro e w3 ⟨v3, rfl, hown3, hb3⟩
  have DF := hid (deleteFunc_any 91 #[.pointer (some ⟨w1.heap.size, 0, none⟩), .pointer (some ⟨w.heap.size, 0, none⟩)] (fun a => ys.any fun b => a != b && r a b) ys v3 w3 w2 hb3 hown3 (by omega) (enters _ _ _ Tryz.func91 (by kernel_rfl) rfl) K1.out)
  clear hown3 hb3
  go_wp2_with fail
  refine DF.out.mono ?_
  rintro e w4 ⟨v4, rfl, hown4, hb4⟩
  rw [← KS.out] at hown4
  have O4 := hid (own_mono hown4 hs2)
  have B4 := hid (B2.out.trans (hb4.mono hs2))
  clear hown4 hb4
  go_wp2_with fail
  go_ret
  exact ⟨_, rfl, O4.out, B4.out⟩

theorem amaximal_any (xs : List S) (v : Value) (w : World) (hv : RdE enc w v xs) (h44 : xs.length < 17592186044416) :
    Calls Tryz.prog 28 #[v] w fun e w' => ∃ v', e = .returned v' ∧ w'.ownsRow w.heap.size 55 1 v' (keepS upR xs).length ((keepS upR xs).map enc) ∧ Below w.heap.size w w' := by
  have C := hid (keep_any 59 upR xs v w hv h44 (enters _ _ _ Tryz.func59 (by kernel_rfl) rfl) amaximal1_any)
  obtain ⟨ao, cap, rfl, -⟩ := hv
  go_enter Tryz.func28, Tryz.ntmps28
  go_wp2_with fail
  refine C.out.mono ?_
  rintro e w1 ⟨v1, rfl, hown, hb1⟩
  have O1 := hid hown
  have B1 := hid hb1
  clear hown hb1
  go_wp2_with fail
  go_ret
  exact ⟨_, rfl, O1.out, B1.out⟩

end Go.Proofs.YtgahpgmagfngfaaGreatDoor


/- The walks of drossref02's Minimal and Maximal. -/
namespace Go.Proofs.YtgahpgmagfngfaaGreatDoor
open Go.RowKit




end Go.Proofs.YtgahpgmagfngfaaGreatDoor


/- The walks of the reference's Sets and without, and of Maximal and Differences. -/
namespace Go.Proofs.YtgahpgmagfngfaaGreatDoor
open Go.RowKit










end Go.Proofs.YtgahpgmagfngfaaGreatDoor


/- The walks of Differences, of agree and of the reference. -/
namespace Go.Proofs.YtgahpgmagfngfaaGreatDoor
open Go.RowKit




end Go.Proofs.YtgahpgmagfngfaaGreatDoor

