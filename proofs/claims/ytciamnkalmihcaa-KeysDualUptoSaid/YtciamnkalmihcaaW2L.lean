/- Plain laws: dependencies within a set stay within it. -/
import Derived.Test.YtciamnkalmihcaaListD
import Derived.Test.YtciamnkalmihcaaMergeL
import Derived.Test.YtciamnkalmihcaaGPlain
namespace Go.Proofs.Ytciamnkalmihcaa
open Go.RowKit

def W2 (A : S) (l : List F) : Prop := ∀ f ∈ l, sub f.1 A ∧ sub f.2 A
theorem w2_list (A : S) (ds : List D8) : W2 A (listF A ds) := by
  intro f h
  unfold listF at h
  obtain ⟨d, _, rfl⟩ := List.mem_map.1 h
  exact ⟨and_sub_right _ _, and_sub_right _ _⟩
theorem w2_valid {n : Nat} (h : n ≤ 16) {l : List F} (hl : l.length ≤ 64) (hw : W2 (fullN n) l) : validF n l = 0 := by
  unfold validF
  rw [if_neg (by omega), if_neg (by omega), if_neg]
  rw [Bool.not_eq_true, List.any_eq_false]
  intro f hf
  obtain ⟨h1, h2⟩ := hw f hf
  rw [show (n : Int).toNat = n by omega, outF_sub, decide_eq_true h1, decide_eq_true h2]; simp
theorem w2_merge {A : S} {l : List F} (h : W2 A l) : W2 A (mergeF l) := by
  intro f hf
  obtain ⟨⟨x, hx, he⟩, h2⟩ := mem_mergeF.1 hf
  refine ⟨by rw [← he]; exact (h x hx).1, ?_⟩
  rw [h2]
  exact orOf_le fun y hy _ => (h y hy).2
theorem w2_sub {A : S} {l m : List F} (h : W2 A l) (k : ∀ f ∈ m, f ∈ l) : W2 A m := fun f hf => h f (k f hf)
theorem w2_mono {A B : S} {l : List F} (h : W2 A l) (k : sub A B) : W2 B l := fun f hf => ⟨sub_trans (h f hf).1 k, sub_trans (h f hf).2 k⟩
theorem full_sub {m n : Nat} (h : m ≤ n) : sub (fullN m) (fullN n) := fun i hi hb => by
  rw [fullN_get m i hi, decide_eq_true_iff] at hb
  rw [fullN_get n i hi, decide_eq_true_iff]; omega

end Go.Proofs.Ytciamnkalmihcaa
