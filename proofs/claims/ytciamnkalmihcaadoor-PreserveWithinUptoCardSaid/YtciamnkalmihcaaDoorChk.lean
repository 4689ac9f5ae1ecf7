/- What makes examples reckonable: implication by four rounds. No program. -/
import Derived.Test.YtciamnkalmihcaaDoorMergeL
import Derived.Test.YtciamnkalmihcaaDoorGPlain
namespace Go.Proofs.YtciamnkalmihcaaDoor

/-- Implication by four rounds, where they suffice. -/
noncomputable def impC (fs : List F) (f : F) : Bool := if closedF fs (iterF fs 4 f.1) then decide (sub f.2 (iterF fs 4 f.1)) else impS fs f
theorem impC_eq : impC = impS := by
  funext fs f
  unfold impC
  split
  · rename_i h; unfold impS; rw [closeS_iter 4 h]
  · rfl
section
variable (imp : List F → F → Bool)
def redG (l : List F) (i : Nat) : Bool := imp (othersF l i) (l.getD i (0#32, 0#32))
def trimStepG (i : Nat) (l : List F) (a : Nat) : List F :=
  match l[i]? with
  | none => l
  | some x => if imp l (x.1 &&& ~~~ bit a, x.2) then l.set i (x.1 &&& ~~~ bit a, x.2) else l
def trimNG (l : List F) (i : Nat) (ns : List Nat) : List F := ns.foldl (trimStepG imp i) l
def trimFG (l : List F) : Nat → List F
  | 0 => l
  | k + 1 => trimNG imp (trimFG l k) k (lhsN (trimFG l k) k)
def dropFG : Nat → List F → Nat → List F
  | 0, l, _ => l
  | n + 1, l, i => if i < l.length then (if redG imp l i then dropFG n (othersF l i) i else dropFG n l (i + 1)) else l
def minG (l : List F) : List F := dropFG imp ((onceF (trimFG imp (splitF l) (splitF l).length)).length - 0) (onceF (trimFG imp (splitF l) (splitF l).length)) 0
end
theorem redG_eq : redG impS = redB := rfl
theorem trimStepG_eq : trimStepG impS = trimStep := rfl
theorem trimFG_eq (l : List F) : ∀ k, trimFG impS l k = trimF l k := by
  intro k
  induction k with
  | zero => rfl
  | succ k ih => unfold trimFG trimF; rw [ih]; rfl
theorem dropFG_eq : ∀ (n : Nat) (l : List F) (i : Nat), dropFG impS n l i = dropF n l i := by
  intro n
  induction n with
  | zero => intro l i; rfl
  | succ n ih => intro l i; unfold dropFG dropF; rw [ih, ih, redG_eq]
theorem minG_eq (l : List F) : minG impC l = minF l := by
  rw [impC_eq]
  unfold minG minF dropS
  rw [dropFG_eq, trimFG_eq]


end Go.Proofs.YtciamnkalmihcaaDoor
