/- The laws of chapter 7, over the contracts of what they call. -/
import Derived.Test.YtciamnkalmihcaaAwake
namespace Go.Proofs.Ytciamnkalmihcaa
open Go.RowKit

/-- A slice of sets that came in, as the row's reading tells it, is a list of sets. -/
theorem row_rd {w : World} {a : Option Addr} {len cap : Nat} {zs : List Int}
    (h : (a = none ∧ len = 0 ∧ cap = 0 ∧ zs = []) ∨ ∃ x, a = some x ∧ len ≤ cap ∧ cap ≤ maxLen ∧ zs.length = cap ∧ (∀ i, i < zs.length → w.cell? (x.add i) = some (.int .u32 (zs.getD i 0))) ∧ ∀ n ∈ zs, (Lit.int .u32 n).wf = true)
    (hl : len ≤ 35184372088832) : ∃ xs : List S, xs.length = len ∧ RdE enc w (.slice a len cap) xs := by
  rcases h with ⟨rfl, rfl, rfl, rfl⟩ | ⟨x, rfl, h1, h2, h3, h4, h5⟩
  · exact ⟨[], rfl, none, 0, rfl, Nat.le_refl _, hl, fun h => absurd h (by simp)⟩
  · refine ⟨(zs.take len).map (BitVec.ofInt 32), by simp; omega, some x, cap, by simp; omega, by simp; omega, by simp; omega, fun hp => ?_⟩
    have hp0 : 0 < zs.length := by simp at hp; omega
    obtain ⟨b, off, spot⟩ := x
    have hspot : spot = none := by simpa [Addr.add] using World.cell?_spot (h4 0 hp0)
    subst hspot
    have hc : ∀ j, j < zs.length → w.cell? ⟨b, off + j, none⟩ = some (.int .u32 (zs.getD j 0)) := fun j hj => by
      have := h4 j hj
      rwa [Addr.add_lit] at this
    refine ⟨b, off, rfl, World.block_lt_of_cell? w _ (hc 0 hp0), fun i y hy => ?_⟩
    rw [List.getElem?_map, Option.map_eq_some_iff] at hy
    obtain ⟨n, hn, rfl⟩ := hy
    have hi : i < len := by
      have := (List.getElem?_eq_some_iff.1 hn).1
      simp at this; omega
    rw [List.getElem?_take_of_lt hi] at hn
    have hi2 : i < zs.length := (List.getElem?_eq_some_iff.1 hn).1
    have hw := h5 n (List.mem_of_getElem? hn)
    simp [Lit.wf, IntKind.min, IntKind.max, IntKind.signed, IntKind.bits] at hw
    rw [hc i hi2]
    have hg : zs.getD i 0 = n := by simp [List.getD, hn]
    rw [hg]
    unfold enc
    rw [iv_ofInt n (by omega) (by omega)]
theorem int_set {n : Int} (hw : (Lit.int .u32 n).wf = true) : ∃ s : S, n = iv s := by
  simp [Lit.wf, IntKind.min, IntKind.max, IntKind.signed, IntKind.bits] at hw
  exact ⟨BitVec.ofInt 32 n, (iv_ofInt n (by omega) (by omega)).symm⟩

/-- What each law asks of a list argument: where it is short it reads. -/
def Arg (w : World) (a : Option Addr) (len cap : Nat) : Prop := len ≤ 35184372088832 → ∃ xs : List S, xs.length = len ∧ RdE enc w (.slice a len cap) xs



end Go.Proofs.Ytciamnkalmihcaa
