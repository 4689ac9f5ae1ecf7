/- Texts that belong together, in one file. -/
import Derived.Test.YtcfcmalaabmceaaGreatDoorGTabA
import Derived.Test.YtcfcmalaabmceaaGreatDoorGOrd
import Derived.Test.YtcfcmalaabmceaaGreatDoorGSort
import Derived.Lib.SliceRun
import Derived.StillTailTactics
/- The walk of agree.Sets: the different agree sets with their numbers of pairs. -/
namespace Go.Proofs.YtcfcmalaabmceaaGreatDoor
open Go.RowKit

/-- The cells of a set with a number. -/
abbrev C2 := S × Int
def cC (x : C2) : List Value := [enc x.1, .int .i64 x.2]
theorem cC_length (x : C2) : (cC x).length = 2 := rfl
abbrev RdCt (w : World) (v : Value) (xs : List C2) : Prop := RdC cC w v xs




end Go.Proofs.YtcfcmalaabmceaaGreatDoor


/- The walk of agree.without: the agree sets without an attribute. -/
namespace Go.Proofs.YtcfcmalaabmceaaGreatDoor
open Go.RowKit




end Go.Proofs.YtcfcmalaabmceaaGreatDoor


/- slices.DeleteFunc over a row of the call's own at a function value that makes memory, and attrset's keep, Minimal and Maximal. -/
namespace Go.Proofs.YtcfcmalaabmceaaGreatDoor
open Go.RowKit

theorem own_take {w : World} {B g n cap k : Nat} {e : TypeId} {xs : List Value} (h : w.ownsRow B e 1 (.slice (some ⟨g, 0, none⟩) n cap) n xs) (hk : k ≤ n) : w.ownsRow B e 1 (.slice (some ⟨g, 0, none⟩) k cap) k (xs.take k) := by
  have hl : xs.length = n * 1 := h.1
  refine ⟨by rw [List.length_take]; omega, ?_⟩
  rcases h.2 with ⟨h1, _⟩ | ⟨g', cap', cur, hv, hB, hg, hnc, hcm, hcs, htake⟩
  · cases h1
  · simp only [Value.slice.injEq, Option.some.injEq, Addr.mk.injEq] at hv
    obtain ⟨⟨rfl, -, -⟩, -, rfl⟩ := hv
    refine .inr ⟨g, cap, cur, rfl, hB, hg, by omega, hcm, hcs, ?_⟩
    rw [← htake, List.take_take, Nat.mul_one, Nat.mul_one, Nat.min_eq_left hk]
theorem own_setCells {B g n cap : Nat} {e : TypeId} : ∀ (vs : List Value) (o : Nat) (w : World) (xs : List Value), w.ownsRow B e 1 (.slice (some ⟨g, 0, none⟩) n cap) n xs → ∃ xs', (w.setCells g o vs).ownsRow B e 1 (.slice (some ⟨g, 0, none⟩) n cap) n xs' ∧ xs'.take o = xs.take o := by
  intro vs
  induction vs with
  | nil => intro o w xs h; exact ⟨xs, h, rfl⟩
  | cons u vs ih =>
    intro o w xs h
    obtain ⟨xs', h1, h2⟩ := ih (o + 1) _ _ (h.stored o u).1
    refine ⟨xs', h1, ?_⟩
    have := congrArg (List.take o) h2
    rw [List.take_take, List.take_take, Nat.min_eq_left (by omega)] at this
    rw [this, List.take_set_of_le (Nat.le_refl _)]

theorem below_cells {B : Nat} {a : World} (b : Nat) (hb : B ≤ b) : ∀ (vs : List Value) (o : Nat) {w : World}, Below B a w → Below B a (w.setCells b o vs) := by
  intro vs
  induction vs with
  | nil => intro o w h; exact h
  | cons u vs ih => intro o w h; exact ih (o + 1) (h.setCell (p := ⟨b, o, none⟩) hb u)


/-- The row while DeleteFunc is at its work. -/
structure Del (p : S → Bool) (xs : List S) (i j : Nat) (dk : List S) : Prop where
  size : dk.length = xs.length
  lt : i < j
  low : dk.take i = (xs.take j).filter (fun x => !p x)
  high : ∀ t, j ≤ t → dk[t]? = xs[t]?
theorem none_filter {p : S → Bool} {xs : List S} (h : xs.any p = false) : xs.filter (fun x => !p x) = xs := by
  rw [List.filter_eq_self]
  intro x hx
  rw [List.any_eq_false] at h
  simp [h x hx]
theorem Del.start {p : S → Bool} {xs : List S} {k : Nat} {x : S} (hx : xs[k]? = some x) (h : (xs.take k).any p = false) (hp : p x = true) : Del p xs k (k + 1) xs :=
  ⟨rfl, by omega, by rw [take_next hx, List.filter_append, none_filter h]; simp [hp], fun _ _ => rfl⟩
theorem Del.keep {p : S → Bool} {xs dk : List S} {i j : Nat} {x : S} (h : Del p xs i j dk) (hx : xs[j]? = some x) (hp : p x = false) : Del p xs (i + 1) (j + 1) (dk.set i x) := by
  have hj := (List.getElem?_eq_some_iff.1 hx).1
  have hi : i < dk.length := by have := h.size; have := h.lt; omega
  refine ⟨by rw [List.length_set]; exact h.size, by have := h.lt; omega, ?_, fun t ht => ?_⟩
  · rw [take_next hx, List.filter_append, ← h.low, take_next (x := x) (by rw [List.getElem?_set_self hi]), List.take_set_of_le (Nat.le_refl _)]
    simp [hp]
  · rw [List.getElem?_set_ne (by have := h.lt; omega)]
    exact h.high t (by omega)
theorem Del.skip {p : S → Bool} {xs dk : List S} {i j : Nat} {x : S} (h : Del p xs i j dk) (hx : xs[j]? = some x) (hp : p x = true) : Del p xs i (j + 1) dk :=
  ⟨h.size, by have := h.lt; omega, by rw [take_next hx, List.filter_append, ← h.low]; simp [hp], fun t ht => h.high t (by omega)⟩


/-! attrset's keep, Minimal, Maximal. -/




end Go.Proofs.YtcfcmalaabmceaaGreatDoor


/- The walks of drossref02's Minimal and Maximal. -/
namespace Go.Proofs.YtcfcmalaabmceaaGreatDoor
open Go.RowKit




end Go.Proofs.YtcfcmalaabmceaaGreatDoor


/- The walks of the reference's Sets and without, and of Maximal and Differences. -/
namespace Go.Proofs.YtcfcmalaabmceaaGreatDoor
open Go.RowKit










end Go.Proofs.YtcfcmalaabmceaaGreatDoor


/- The walks of Differences, of agree and of the reference. -/
namespace Go.Proofs.YtcfcmalaabmceaaGreatDoor
open Go.RowKit




end Go.Proofs.YtcfcmalaabmceaaGreatDoor

