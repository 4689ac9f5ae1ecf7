/- The walks of cover's Minimal, Canonical, Redundant, Extraneous and IsMinimal. -/
import Derived.Test.YtciamnkalmihcaaDoorMerge
import Derived.Test.YtciamnkalmihcaaDoorCompare
namespace Go.Proofs.YtciamnkalmihcaaDoor
open Go.RowKit

theorem minF_length (fs : List F) : (minF fs).length ≤ 32 * fs.length := by
  have h1 := dropS_length _ (onceF (trimF (splitF fs) (splitF fs).length)) 0 (Nat.le_refl _)
  have h2 := onceF_length (trimF (splitF fs) (splitF fs).length)
  have h3 := trimF_length (splitF fs) (splitF fs).length
  have h4 : (splitF fs).length ≤ 32 * fs.length := Nat.le_trans (onceF_length _) (flatSplit_length _)
  unfold minF; omega
theorem valid_len {n : Int} {fs : List F} (h : validF n fs = 0) : fs.length ≤ 64 := by
  unfold validF at h
  by_cases h1 : n < 0 ∨ 16 < n
  · rw [if_pos h1] at h; cases h
  · rw [if_neg h1] at h
    by_cases h2 : 64 < fs.length
    · rw [if_pos h2] at h; cases h
    · omega
/-- What Minimal gives: the minimal cover, or nothing. -/
noncomputable def resM (n : Int) (fs : List F) : List F := if validF n fs = 0 then minF fs else []
theorem resM_length (n : Int) (fs : List F) : (resM n fs).length ≤ 2048 := by
  unfold resM; split
  · rename_i h; have := minF_length fs; have := valid_len h; omega
  · simp



/-- The redundant dependencies. -/
noncomputable def redI (fs : List F) : List Nat := (List.range fs.length).filter (redB fs)

/-- The superfluous attributes of a left side. -/
noncomputable def extAdd (l : List F) (x : F) (s : S) (a : Nat) : S := if extrB l x a then s ||| bit a else s
noncomputable def extSet (l : List F) (x : F) : S := (memN x.1 32).foldl (extAdd l x) 0#32
theorem extFold_next {l : List F} {x : F} {ms : List Nat} {j a : Nat} (h : ms[j]? = some a) : (ms.take (j + 1)).foldl (extAdd l x) 0#32 = extAdd l x ((ms.take j).foldl (extAdd l x) 0#32) a := by rw [take_next h, List.foldl_append]; rfl
/-- What Extraneous gives. -/
noncomputable def exS (fs : List F) (i : Int) : S := if i < 0 ∨ (fs.length : Int) ≤ i then 0#32 else extSet fs (fs.getD i.toNat (0#32, 0#32))
def exE (fs : List F) (i : Int) : Int := if i < 0 ∨ (fs.length : Int) ≤ i then 7 else 0
theorem exS_at {fs : List F} {i : Nat} {x : F} (h : fs[i]? = some x) : exS fs i = extSet fs x := by
  have := (List.getElem?_eq_some_iff.1 h).1
  unfold exS; rw [if_neg (by omega)]; simp [List.getD, h]


end Go.Proofs.YtciamnkalmihcaaDoor
