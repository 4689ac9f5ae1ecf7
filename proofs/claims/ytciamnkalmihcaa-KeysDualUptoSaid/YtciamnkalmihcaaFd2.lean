/- The walks over lists of dependencies, on: Missing, Equivalent, Valid, Clone. -/
import Derived.Test.YtciamnkalmihcaaFd
namespace Go.Proofs.Ytciamnkalmihcaa
open Go.RowKit

theorem find_none {α : Type} {p : α → Bool} {l : List α} (h : l.any p = false) : l.findIdx? p = none := by
  rw [List.findIdx?_eq_none_iff]
  intro x hx
  rw [List.any_eq_false] at h
  simpa using h x hx
theorem find_hit {α : Type} {p : α → Bool} {l : List α} {k : Nat} {x : α} (hf : l[k]? = some x) (h : p x = true) (hn : (l.take k).any p = false) : l.findIdx? p = some k := by
  obtain ⟨hk, rfl⟩ := List.getElem?_eq_some_iff.1 hf
  rw [List.findIdx?_eq_some_iff_getElem]
  refine ⟨hk, h, fun j hj => ?_⟩
  rw [List.any_eq_false] at hn
  have hm : l[j]'(by omega) ∈ l.take k := by
    rw [List.mem_take_iff_getElem]
    exact ⟨j, by omega, rfl⟩
  simpa using hn _ hm






end Go.Proofs.Ytciamnkalmihcaa
