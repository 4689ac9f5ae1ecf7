/- Texts that belong together, in one file. -/
import Derived.Test.YtgahpgmagfngfaaGreatDoorGPlain
import Derived.Test.YtgahpgmagfngfaaGreatDoorGKm2
import Derived.Test.YtgahpgmagfngfaaGreatDoorGTab30
import Derived.Test.YtgahpgmagfngfaaGreatDoorOpen
/- Plain laws of the search for inclusion dependencies and of the states that they lead to. No program. -/
namespace Go.Proofs.YtgahpgmagfngfaaGreatDoor
set_option linter.unusedVariables false

/-! The candidates that hold. -/
def frsN (l : List Nat) : Nat := match l.getLast? with
  | none => 0
  | some a => a + 1
abbrev P2 := List Nat × List Nat
def stepE (H : List Nat → List Nat → Bool) (same : Bool) (ext : List Nat → List Nat → List P2) (l r : List Nat) (a b : Nat) : List P2 :=
  if (r.contains b || (same && a == b)) = true then [] else if H (l ++ [a]) (r ++ [b]) = true then (l ++ [a], r ++ [b]) :: ext (l ++ [a]) (r ++ [b]) else []
def extL (H : List Nat → List Nat → Bool) (na nb : Nat) (same : Bool) : Nat → List Nat → List Nat → List P2
  | 0, _, _ => []
  | n + 1, l, r => (List.range' (frsN l) (na - frsN l)).flatMap fun a => (List.range nb).flatMap fun b => stepE H same (extL H na nb same n) l r a b
theorem extL_succ (H : List Nat → List Nat → Bool) (na nb : Nat) (same : Bool) (n : Nat) (l r : List Nat) : extL H na nb same (n + 1) l r = (List.range' (frsN l) (na - frsN l)).flatMap fun a => (List.range nb).flatMap fun b => stepE H same (extL H na nb same n) l r a b := rfl
theorem frsN_snoc (l : List Nat) (a : Nat) : frsN (l ++ [a]) = a + 1 := by unfold frsN; simp
theorem flat_len_le {α β γ : Type} (l : List α) (f : α → List β) (g : α → List γ) (h : ∀ a ∈ l, (f a).length ≤ (g a).length) : (l.flatMap f).length ≤ (l.flatMap g).length := by
  induction l with
  | nil => simp
  | cons a l ih =>
    rw [List.flatMap_cons, List.flatMap_cons, List.length_append, List.length_append]
    have h1 := h a (by simp)
    have h2 := ih fun b hb => h b (by simp [hb])
    omega
theorem flat_take_len {α β : Type} (xs : List α) (f : α → List β) {k : Nat} {x : α} (h : xs[k]? = some x) : ((xs.take k).flatMap f).length + (f x).length ≤ (xs.flatMap f).length := by
  have hlt := (List.getElem?_eq_some_iff.1 h).1
  have e : xs = xs.take k ++ x :: xs.drop (k + 1) := by
    have h1 : xs.drop k = x :: xs.drop (k + 1) := by rw [List.drop_eq_getElem_cons hlt, (List.getElem?_eq_some_iff.1 h).2]
    rw [← h1, List.take_append_drop]
  have h2 : (xs.flatMap f).length = ((xs.take k).flatMap f).length + ((f x).length + ((xs.drop (k + 1)).flatMap f).length) := by
    conv => lhs; rw [e]
    rw [List.flatMap_append, List.flatMap_cons, List.length_append, List.length_append]
  omega
theorem flat_take_next {α β : Type} (xs : List α) (f : α → List β) {k : Nat} {x : α} (h : xs[k]? = some x) : (xs.take (k + 1)).flatMap f = (xs.take k).flatMap f ++ f x := by
  rw [List.take_add_one, h, List.flatMap_append]; simp
theorem extL_most (H : List Nat → List Nat → Bool) (na nb : Nat) (same : Bool) : ∀ (n : Nat) (l r : List Nat), (extL H na nb same n l r).length ≤ (extL (fun _ _ => true) na nb same n l r).length := by
  intro n
  induction n with
  | zero => intro l r; exact Nat.le_refl _
  | succ n ih =>
    intro l r
    rw [extL_succ, extL_succ]
    refine flat_len_le _ _ _ fun a _ => flat_len_le _ _ _ fun b _ => ?_
    unfold stepE
    by_cases h1 : (r.contains b || (same && a == b)) = true
    · rw [if_pos h1, if_pos h1]; exact Nat.le_refl _
    · rw [if_neg h1, if_neg h1, if_pos rfl]
      by_cases h2 : H (l ++ [a]) (r ++ [b]) = true
      · rw [if_pos h2, List.length_cons, List.length_cons]; have := ih (l ++ [a]) (r ++ [b]); omega
      · rw [if_neg h2]; exact Nat.zero_le _
theorem extL_33 (H : List Nat → List Nat → Bool) {na nb : Nat} (ha : na ≤ 3) (hb : nb ≤ 3) (same : Bool) : (extL H na nb same 3 [] []).length ≤ 33 := by
  refine Nat.le_trans (extL_most H na nb same 3 [] []) ?_
  have : ∀ (x y : Fin 4) (s : Bool), (extL (fun _ _ => true) x.val y.val s 3 [] []).length ≤ 33 := by decide +kernel
  exact this ⟨na, by omega⟩ ⟨nb, by omega⟩ same

/-- A candidate: lists of one length, the left one rising, the right one without repetition, within the tables. -/
structure Cand (na nb : Nat) (l r : List Nat) : Prop where
  len : l.length = r.length
  up : l.Pairwise (· < ·)
  lt : ∀ a ∈ l, a < na
  nd : r.Nodup
  rt : ∀ b ∈ r, b < nb
theorem pairwise_snoc {l : List Nat} {a : Nat} (h : l.Pairwise (· < ·)) (ha : frsN l ≤ a) : (l ++ [a]).Pairwise (· < ·) := by
  rw [List.pairwise_append]
  refine ⟨h, List.pairwise_singleton _ _, fun x hx y hy => ?_⟩
  rw [List.mem_singleton] at hy
  subst hy
  rcases List.eq_nil_or_concat l with rfl | ⟨l', z, rfl⟩
  · cases hx
  · rw [show l'.concat z = l' ++ [z] by simp] at h hx ha
    rw [frsN_snoc] at ha
    rw [List.pairwise_append] at h
    rcases List.mem_append.1 hx with hx | hx
    · have := h.2.2 x hx z (by simp); omega
    · rw [List.mem_singleton] at hx; omega
theorem Cand.snoc {na nb : Nat} {l r : List Nat} {a b : Nat} (h : Cand na nb l r) (ha : frsN l ≤ a) (hna : a < na) (hb : b < nb) (hr : b ∉ r) : Cand na nb (l ++ [a]) (r ++ [b]) := by
  refine ⟨by simp [h.len], pairwise_snoc h.up ha, fun x hx => ?_, ?_, fun x hx => ?_⟩
  · rcases List.mem_append.1 hx with hx | hx
    · exact h.lt x hx
    · rw [List.mem_singleton] at hx; omega
  · rw [List.nodup_append]
    refine ⟨h.nd, by simp, fun x hx y hy => ?_⟩
    rw [List.mem_singleton] at hy
    subst hy
    exact fun e => hr (e ▸ hx)
  · rcases List.mem_append.1 hx with hx | hx
    · exact h.rt x hx
    · rw [List.mem_singleton] at hx; omega
theorem mem_range'_iff {f n a : Nat} : a ∈ List.range' f n ↔ f ≤ a ∧ a < f + n := by
  rw [List.mem_range'_1]
theorem extL_sound {H : List Nat → List Nat → Bool} {na nb : Nat} {same : Bool} : ∀ (n : Nat) (l r : List Nat), Cand na nb l r → ∀ p ∈ extL H na nb same n l r, Cand na nb p.1 p.2 ∧ H p.1 p.2 = true := by
  intro n
  induction n with
  | zero => intro l r _ p hp; cases hp
  | succ n ih =>
    intro l r hc p hp
    rw [extL_succ, List.mem_flatMap] at hp
    obtain ⟨a, ha, hp⟩ := hp
    rw [List.mem_flatMap] at hp
    obtain ⟨b, hb, hp⟩ := hp
    rw [mem_range'_iff] at ha
    rw [List.mem_range] at hb
    unfold stepE at hp
    by_cases h1 : (r.contains b || (same && a == b)) = true
    · rw [if_pos h1] at hp; cases hp
    · rw [if_neg h1] at hp
      have hr : b ∉ r := fun hm => h1 (by simp [hm])
      have hc2 := hc.snoc (a := a) (b := b) ha.1 (by omega) hb hr
      by_cases h2 : H (l ++ [a]) (r ++ [b]) = true
      · rw [if_pos h2] at hp
        rcases List.mem_cons.1 hp with rfl | hp
        · exact ⟨hc2, h2⟩
        · exact ih _ _ hc2 p hp
      · rw [if_neg h2] at hp; cases hp
theorem extL_all {H : List Nat → List Nat → Bool} {na nb : Nat} {same : Bool} : ∀ (n : Nat) (l r la rb : List Nat), 0 < la.length → la.length ≤ n → la.length = rb.length → (l ++ la).Pairwise (· < ·) → (∀ a ∈ la, a < na) → (r ++ rb).Nodup → (∀ b ∈ rb, b < nb) →
    (same = true → ∀ p ∈ la.zip rb, p.1 ≠ p.2) → (∀ k, H (l ++ la.take k) (r ++ rb.take k) = true) → (l ++ la, r ++ rb) ∈ extL H na nb same n l r := by
  intro n
  induction n with
  | zero => intro l r la rb h0 hn; omega
  | succ n ih =>
    intro l r la rb h0 hn hl hu hla hd hrb hs hH
    cases la with
    | nil => simp at h0
    | cons a la =>
      cases rb with
      | nil => simp at hl
      | cons b rb =>
        rw [extL_succ, List.mem_flatMap]
        have hfa : frsN l ≤ a := by
          rcases List.eq_nil_or_concat l with rfl | ⟨l', z, rfl⟩
          · exact Nat.zero_le _
          · rw [show l'.concat z = l' ++ [z] by simp] at hu ⊢
            rw [frsN_snoc]
            rw [List.pairwise_append] at hu
            have := hu.2.2 z (by simp) a (by simp)
            omega
        have hna : a < na := hla a (by simp)
        refine ⟨a, mem_range'_iff.2 ⟨hfa, by omega⟩, ?_⟩
        rw [List.mem_flatMap]
        have hnb : b < nb := hrb b (by simp)
        refine ⟨b, List.mem_range.2 hnb, ?_⟩
        have hbr : b ∉ r := fun hm => by
          rw [List.nodup_append] at hd
          exact hd.2.2 b hm b (by simp) rfl
        have hne : ¬ (r.contains b || (same && a == b)) = true := by
          intro h
          rw [Bool.or_eq_true] at h
          rcases h with h | h
          · exact hbr (by simpa using h)
          · rw [Bool.and_eq_true] at h
            exact hs h.1 (a, b) (by simp) (by simpa using h.2)
        have hH1 : H (l ++ [a]) (r ++ [b]) = true := by have := hH 1; simpa using this
        unfold stepE
        rw [if_neg hne, if_pos hH1]
        by_cases hz : la = []
        · subst hz
          have hz2 : rb = [] := List.eq_nil_of_length_eq_zero (by simpa using hl.symm)
          subst hz2
          simp
        · refine List.mem_cons_of_mem _ ?_
          have := ih (l ++ [a]) (r ++ [b]) la rb (List.length_pos_iff.2 hz) (by simpa using hn) (by simpa using hl) (by simpa using hu) (fun x hx => hla x (by simp [hx])) (by simpa using hd) (fun x hx => hrb x (by simp [hx])) (fun h p hp => hs h p (by simp [hp])) (fun k => by have := hH (k + 1); simpa using this)
          simpa using this

/-! Dependencies and states. -/
/-- A dependency: its tables, its lists of attributes. -/
abbrev DN := Nat × Nat × List Nat × List Nat
/-- A state: its table, its list of attributes. -/
abbrev SN := Nat × List Nat
def goS (d : DN) (a : Nat) : Nat := d.2.2.2.getD (d.2.2.1.idxOf a) 0
def appS (d : DN) (s : SN) : Bool := decide (d.1 = s.1) && s.2.all fun a => d.2.2.1.contains a
def toSN (d : DN) (s : SN) : SN := (d.2.1, s.2.map (goS d))
/-- What the states of a start are. -/
inductive Rch (L : List DN) (s0 : SN) : SN → Prop
  | start : Rch L s0 s0
  | step (d : DN) (s : SN) : d ∈ L → Rch L s0 s → appS d s = true → Rch L s0 (toSN d s)

/-- What is true of a dependency in tables with numbers of attributes. -/
structure VI (m : Nat) (N : Nat → Nat) (d : DN) : Prop where
  f : d.1 < m
  t : d.2.1 < m
  len : d.2.2.1.length = d.2.2.2.length
  l : ∀ a ∈ d.2.2.1, a < N d.1
  r : ∀ a ∈ d.2.2.2, a < N d.2.1
  nl : d.2.2.1.Nodup
  nr : d.2.2.2.Nodup
/-- What is true of a state. -/
structure VS (m n : Nat) (N : Nat → Nat) (s : SN) : Prop where
  t : s.1 < m
  len : s.2.length = n
  a : ∀ a ∈ s.2, a < N s.1
theorem goS_mem {d : DN} {a : Nat} (hl : d.2.2.1.length = d.2.2.2.length) (ha : a ∈ d.2.2.1) : goS d a ∈ d.2.2.2 ∧ (a, goS d a) ∈ d.2.2.1.zip d.2.2.2 := by
  unfold goS
  have h1 : d.2.2.1.idxOf a < d.2.2.1.length := List.idxOf_lt_length_of_mem ha
  have h2 : d.2.2.1.idxOf a < d.2.2.2.length := by omega
  rw [List.getD_eq_getElem?_getD, List.getElem?_eq_getElem h2, Option.getD_some]
  refine ⟨List.getElem_mem _, ?_⟩
  have h3 : (d.2.2.1.zip d.2.2.2)[d.2.2.1.idxOf a]? = some (a, d.2.2.2[d.2.2.1.idxOf a]) := by
    rw [List.getElem?_zip_eq_some]
    refine ⟨?_, List.getElem?_eq_getElem h2⟩
    rw [List.getElem?_eq_getElem h1, List.getElem_idxOf h1]
  exact List.mem_of_getElem? h3
theorem VS.next {m n : Nat} {N : Nat → Nat} {d : DN} {s : SN} (hd : VI m N d) (hs : VS m n N s) (h : appS d s = true) : VS m n N (toSN d s) := by
  unfold appS at h
  rw [Bool.and_eq_true, List.all_eq_true] at h
  refine ⟨hd.t, by show (s.2.map (goS d)).length = n; rw [List.length_map, hs.len], fun a ha => ?_⟩
  obtain ⟨x, hx, rfl⟩ := List.mem_map.1 ha
  exact hd.r _ (goS_mem hd.len (by simpa using h.2 x hx)).1
theorem VS.rch {m n : Nat} {N : Nat → Nat} {L : List DN} {s0 s : SN} (hL : ∀ d ∈ L, VI m N d) (h0 : VS m n N s0) (h : Rch L s0 s) : VS m n N s := by
  induction h with
  | start => exact h0
  | step d s hd _ ha ih => exact ih.next (hL d hd) ha
def codeN : List Nat → Nat
  | [] => 0
  | a :: l => a + 4 * codeN l
theorem codeN_inj : ∀ (l r : List Nat), l.length = r.length → (∀ a ∈ l, a < 4) → (∀ a ∈ r, a < 4) → codeN l = codeN r → l = r := by
  intro l
  induction l with
  | nil => intro r h _ _ _; exact (List.eq_nil_of_length_eq_zero h.symm).symm
  | cons a l ih =>
    intro r h hl hr he
    cases r with
    | nil => simp at h
    | cons b r =>
      unfold codeN at he
      have h1 := hl a (by simp)
      have h2 := hr b (by simp)
      have e : a = b := by omega
      subst e
      rw [ih r (by simpa using h) (fun x hx => hl x (by simp [hx])) (fun x hx => hr x (by simp [hx])) (by omega)]
theorem codeN_lt : ∀ (l : List Nat), (∀ a ∈ l, a < 4) → codeN l < 4 ^ l.length := by
  intro l
  induction l with
  | nil => intro _; decide
  | cons a l ih =>
    intro h
    have h1 := h a (by simp)
    have h2 := ih fun x hx => h x (by simp [hx])
    unfold codeN
    rw [List.length_cons, Nat.pow_succ]
    omega
/-- There are few states. -/
theorem states_few {m n : Nat} {N : Nat → Nat} (hm : m ≤ 4) (hn : n ≤ 4) (hN : ∀ k, N k ≤ 4) {S : List SN} (hd : S.Nodup) (hs : ∀ s ∈ S, VS m n N s) : S.length ≤ 1024 := by
  have hlt : ∀ s ∈ S, codeN (s.1 :: s.2) < 1024 := by
    intro s h
    have h1 := hs s h
    have h2 := codeN_lt (s.1 :: s.2) (fun a ha => by
      rcases List.mem_cons.1 ha with rfl | ha
      · have := h1.t; omega
      · have := h1.a a ha; have := hN s.1; omega)
    rw [List.length_cons, h1.len] at h2
    have h3 : 4 ^ (n + 1) ≤ 4 ^ 5 := Nat.pow_le_pow_right (by decide) (by omega)
    omega
  have hnd : (S.map fun s => codeN (s.1 :: s.2)).Nodup := by
    unfold List.Nodup
    rw [List.pairwise_map]
    refine List.Pairwise.imp_of_mem (fun {a b} ha hb hne he => hne ?_) hd
    have b4 : ∀ s ∈ S, ∀ x ∈ s.1 :: s.2, x < 4 := fun s h x hx => by
      have h1 := hs s h
      rcases List.mem_cons.1 hx with rfl | hx
      · have := h1.t; omega
      · have := h1.a x hx; have := hN s.1; omega
    have := codeN_inj (a.1 :: a.2) (b.1 :: b.2) (by rw [List.length_cons, List.length_cons, (hs a ha).len, (hs b hb).len]) (b4 a ha) (b4 b hb) he
    simp only [List.cons.injEq] at this
    exact Prod.ext this.1 this.2
  have := nodup_bound 1024 _ hnd (fun x hx => by obtain ⟨s, h, rfl⟩ := List.mem_map.1 hx; exact hlt s h)
  rwa [List.length_map] at this

/-! From what holds to what follows. -/
theorem perm_up {l r : List Nat} (hl : l.length = r.length) (hn : l.Nodup) : ∃ ps : List (Nat × Nat), ps.Perm (l.zip r) ∧ (ps.map Prod.fst).Pairwise (· < ·) := by
  refine ⟨(l.zip r).mergeSort (fun p q => decide (p.1 ≤ q.1)), List.mergeSort_perm _ _, ?_⟩
  have hp := List.mergeSort_perm (l.zip r) (fun p q => decide (p.1 ≤ q.1))
  have h1 := List.pairwise_mergeSort (le := fun p q : Nat × Nat => decide (p.1 ≤ q.1)) (fun a b c h1 h2 => by simp at *; omega) (fun a b => by simp; omega) (l.zip r)
  have h2 : ((l.zip r).map Prod.fst).Nodup := by rw [List.map_fst_zip (by omega)]; exact hn
  have h3 := (hp.map Prod.fst).nodup_iff.2 h2
  rw [List.pairwise_map]
  unfold List.Nodup at h3
  rw [List.pairwise_map] at h3
  exact (h1.and h3).imp fun {a b} h => by have := h.1; simp at this; have := h.2; omega
theorem zip_maps (ps : List (Nat × Nat)) : (ps.map Prod.fst).zip (ps.map Prod.snd) = ps := by
  induction ps with
  | nil => rfl
  | cons p ps ih => simp [ih]
theorem zip_fst_nodup {l r : List Nat} (hn : l.Nodup) {a b b' : Nat} (h : (a, b) ∈ l.zip r) (h' : (a, b') ∈ l.zip r) : b = b' := by
  obtain ⟨i, hi⟩ := List.mem_iff_getElem?.1 h
  obtain ⟨j, hj⟩ := List.mem_iff_getElem?.1 h'
  rw [List.getElem?_zip_eq_some] at hi hj
  have e : i = j := by
    have h1 := List.getElem?_eq_some_iff.1 hi.1
    have h2 := List.getElem?_eq_some_iff.1 hj.1
    exact (List.getElem_inj (h₀ := h1.1) (h₁ := h2.1) hn).1 (h1.2.trans h2.2.symm)
  subst e
  have := hi.2.symm.trans hj.2
  simpa using this
/-- One step leads from the left side to the right one by the same pairs in another order. -/
theorem one_step {f t : Nat} {l r : List Nat} (hl : l.length = r.length) (hn : l.Nodup) {ps : List (Nat × Nat)} (hp : ps.Perm (l.zip r)) : appS (f, t, ps.map Prod.fst, ps.map Prod.snd) (f, l) = true ∧ toSN (f, t, ps.map Prod.fst, ps.map Prod.snd) (f, l) = (t, r) := by
  have hmem : ∀ a ∈ l, a ∈ ps.map Prod.fst := by
    intro a ha
    have : a ∈ (l.zip r).map Prod.fst := by rw [List.map_fst_zip (by omega)]; exact ha
    exact (hp.map Prod.fst).mem_iff.2 this
  constructor
  · unfold appS
    rw [Bool.and_eq_true, List.all_eq_true]
    exact ⟨by simp, fun a ha => by simpa using hmem a ha⟩
  · unfold toSN
    refine Prod.ext rfl ?_
    show l.map (goS (f, t, ps.map Prod.fst, ps.map Prod.snd)) = r
    apply List.ext_getElem (by rw [List.length_map, hl])
    intro i h1 h2
    rw [List.getElem_map]
    have h3 : i < l.length := by simpa using h1
    have hz : (l[i], r[i]) ∈ l.zip r := by
      have : (l.zip r)[i]? = some (l[i], r[i]) := by
        rw [List.getElem?_zip_eq_some]; exact ⟨List.getElem?_eq_getElem h3, List.getElem?_eq_getElem h2⟩
      exact List.mem_of_getElem? this
    have hg := (goS_mem (d := (f, t, ps.map Prod.fst, ps.map Prod.snd)) (a := l[i]) (by simp) (hmem _ (List.getElem_mem _))).2
    simp only at hg
    rw [zip_maps] at hg
    exact zip_fst_nodup hn (hp.mem_iff.1 hg) hz

end Go.Proofs.YtgahpgmagfngfaaGreatDoor


/- Plain laws: which inclusion dependencies hold in tables, are found, and follow. No program. -/
namespace Go.Proofs.YtgahpgmagfngfaaGreatDoor
open Go.RowKit
set_option linter.unusedVariables false

theorem hasK_iff {κ : Type} [DecidableEq κ] {ks : List κ} {k : κ} : hasK ks k = true ↔ k ∈ ks := by unfold hasK; exact decide_eq_true_iff
def keyLs (rs : List Row3) (ms : List Nat) : List KS := rs.map fun x => mkKS (kyB x.2.2 ms)
def hldB (a b : List Row3) (l r : List Nat) : Bool := (keyLs a l).all (hasK (keyLs b r))
def agP (x y : Row3) (ps : List (Nat × Nat)) : Prop := ∀ p ∈ ps, x.2.2.getD p.1 noV = y.2.2.getD p.2 noV
def RowsOk (n : Nat) (rs : List Row3) : Prop := ∀ r ∈ rs, r.2.2.length = n ∧ ∀ x ∈ r.2.2, okV x
theorem maps_zip {α β γ : Type} (f : α → γ) (g : β → γ) : ∀ (l : List α) (r : List β), l.length = r.length → (l.map f = r.map g ↔ ∀ p ∈ l.zip r, f p.1 = g p.2) := by
  intro l
  induction l with
  | nil => intro r h; rw [List.eq_nil_of_length_eq_zero h.symm]; simp
  | cons a l ih =>
    intro r h
    cases r with
    | nil => simp at h
    | cons b r =>
      rw [List.map_cons, List.map_cons, List.cons.injEq, ih r (by simpa using h), List.zip_cons_cons]
      simp
theorem ky_len {n : Nat} {rs : List Row3} {ms : List Nat} (h : RowsOk n rs) (hm : ∀ i ∈ ms, i < n) (hl : ms.length ≤ 32) : ∀ x ∈ rs, (kyB x.2.2 ms).length ≤ 12896 := fun x hx =>
  kyB_length (fun y hy => ((h x hx).2 y hy).1) (fun a ha => by rw [(h x hx).1]; exact hm a ha) hl
theorem hld_iff {na nb : Nat} {a b : List Row3} {l r : List Nat} (ha : RowsOk na a) (hb : RowsOk nb b) (hlr : l.length = r.length) (hl : ∀ i ∈ l, i < na) (hr : ∀ i ∈ r, i < nb) (h32 : l.length ≤ 32) :
    hldB a b l r = true ↔ ∀ x ∈ a, ∃ y ∈ b, agP x y (l.zip r) := by
  have hml : (12896 : Nat) ≤ maxLen := by decide
  have key : ∀ x ∈ a, (hasK (keyLs b r) (mkKS (kyB x.2.2 l)) = true ↔ ∃ y ∈ b, agP x y (l.zip r)) := by
    intro x hx
    rw [hasK_iff]
    unfold keyLs
    rw [List.mem_map]
    refine exists_congr fun y => and_congr_right fun hy => ?_
    unfold agP
    rw [← maps_zip (fun i => x.2.2.getD i noV) (fun i => y.2.2.getD i noV) l r hlr]
    constructor
    · intro h
      have h1 := mkKS_inj (Nat.le_trans (ky_len hb hr (by omega) y hy) hml) (Nat.le_trans (ky_len ha hl h32 x hx) hml) h
      unfold kyB at h1
      refine (keysB_inj ?_ ?_ (by rw [List.length_map, List.length_map, hlr]) h1).symm
      · intro z hz
        obtain ⟨i, hi, rfl⟩ := List.mem_map.1 hz
        have h2 : i < y.2.2.length := by rw [(hb y hy).1]; exact hr i hi
        have e : y.2.2.getD i noV = y.2.2[i] := by rw [List.getD_eq_getElem?_getD, List.getElem?_eq_getElem h2]; rfl
        rw [e]
        exact (hb y hy).2 _ (List.getElem_mem _)
      · intro z hz
        obtain ⟨i, hi, rfl⟩ := List.mem_map.1 hz
        have h2 : i < x.2.2.length := by rw [(ha x hx).1]; exact hl i hi
        have e : x.2.2.getD i noV = x.2.2[i] := by rw [List.getD_eq_getElem?_getD, List.getElem?_eq_getElem h2]; rfl
        rw [e]
        exact (ha x hx).2 _ (List.getElem_mem _)
    · intro h
      unfold kyB
      rw [h]
  unfold hldB
  rw [List.all_eq_true]
  constructor
  · intro h x hx
    exact (key x hx).1 (h _ (List.mem_map.2 ⟨x, hx, rfl⟩))
  · intro h k hk
    obtain ⟨x, hx, rfl⟩ := List.mem_map.1 hk
    exact (key x hx).2 (h x hx)

/-- Tables as they are searched: m of them, N k attributes and the rows R k. -/
structure DbOk (m : Nat) (N : Nat → Nat) (R : Nat → List Row3) : Prop where
  m3 : m ≤ 3
  n3 : ∀ k, N k ≤ 3
  ok : ∀ k, RowsOk (N k) (R k)
def hldD (R : Nat → List Row3) (d : DN) : Bool := hldB (R d.1) (R d.2.1) d.2.2.1 d.2.2.2
def foundD (N : Nat → Nat) (R : Nat → List Row3) (i k : Nat) : List DN := (extL (hldB (R i) (R k)) (N i) (N k) (i == k) 3 [] []).map fun p => (i, k, p.1, p.2)
theorem foundD_length {m : Nat} {N : Nat → Nat} {R : Nat → List Row3} (h : DbOk m N R) (i k : Nat) : (foundD N R i k).length ≤ 33 := by
  unfold foundD; rw [List.length_map]; exact extL_33 _ (h.n3 i) (h.n3 k) _
theorem VI.short {m : Nat} {N : Nat → Nat} {R : Nat → List Row3} (h : DbOk m N R) {d : DN} (hd : VI m N d) : d.2.2.1.length ≤ 3 := by
  have := nodup_bound (N d.1) d.2.2.1 hd.nl hd.l
  have := h.n3 d.1
  omega
theorem found_ok {m : Nat} {N : Nat → Nat} {R : Nat → List Row3} {i k : Nat} (hi : i < m) (hk : k < m) {d : DN} (hd : d ∈ foundD N R i k) : VI m N d ∧ hldD R d = true := by
  unfold foundD at hd
  obtain ⟨p, hp, rfl⟩ := List.mem_map.1 hd
  obtain ⟨hc, hh⟩ := extL_sound 3 [] [] ⟨rfl, List.Pairwise.nil, by simp, List.nodup_nil, by simp⟩ p hp
  exact ⟨⟨hi, hk, hc.len, hc.lt, hc.rt, hc.up.imp fun h => by omega, hc.nd⟩, hh⟩
theorem hldD_iff {m : Nat} {N : Nat → Nat} {R : Nat → List Row3} (h : DbOk m N R) {d : DN} (hd : VI m N d) : hldD R d = true ↔ ∀ x ∈ R d.1, ∃ y ∈ R d.2.1, agP x y (d.2.2.1.zip d.2.2.2) :=
  hld_iff (h.ok _) (h.ok _) hd.len hd.l hd.r (by have := hd.short h; omega)
theorem found_all {m : Nat} {N : Nat → Nat} {R : Nat → List Row3} (h : DbOk m N R) {g : DN} (hg : VI m N g) (hh : hldD R g = true) (h0 : 0 < g.2.2.1.length) (hs : ¬ (g.1 = g.2.1 ∧ ∃ p ∈ g.2.2.1.zip g.2.2.2, p.1 = p.2)) :
    ∃ d ∈ foundD N R g.1 g.2.1, appS d (g.1, g.2.2.1) = true ∧ toSN d (g.1, g.2.2.1) = (g.2.1, g.2.2.2) := by
  obtain ⟨ps, hp, hu⟩ := perm_up (r := g.2.2.2) hg.len hg.nl
  have hpl : ps.length = g.2.2.1.length := by rw [hp.length_eq, List.length_zip, ← hg.len, Nat.min_self]
  have hpf : ∀ a ∈ ps.map Prod.fst, a < N g.1 := fun a ha => by
    have := (hp.map Prod.fst).mem_iff.1 ha
    rw [List.map_fst_zip (by have := hg.len; omega)] at this
    exact hg.l a this
  have hps : ∀ a ∈ ps.map Prod.snd, a < N g.2.1 := fun a ha => by
    have := (hp.map Prod.snd).mem_iff.1 ha
    rw [List.map_snd_zip (by have := hg.len; omega)] at this
    exact hg.r a this
  have hnd : (ps.map Prod.snd).Nodup := by
    rw [(hp.map Prod.snd).nodup_iff, List.map_snd_zip (by have := hg.len; omega)]
    exact hg.nr
  have hag := (hldD_iff h hg).1 hh
  have h3 := hg.short h
  refine ⟨(g.1, g.2.1, ps.map Prod.fst, ps.map Prod.snd), ?_, one_step hg.len hg.nl hp⟩
  unfold foundD
  refine List.mem_map.2 ⟨(ps.map Prod.fst, ps.map Prod.snd), ?_, rfl⟩
  have := extL_all (H := hldB (R g.1) (R g.2.1)) (na := N g.1) (nb := N g.2.1) (same := g.1 == g.2.1) 3 [] [] (ps.map Prod.fst) (ps.map Prod.snd) (by rw [List.length_map]; omega) (by rw [List.length_map]; omega) (by simp) hu hpf hnd hps
    (fun he p hpm e => by
      rw [zip_maps] at hpm
      exact hs ⟨by simpa using he, p, hp.mem_iff.1 hpm, e⟩)
    (fun k => by
      rw [List.nil_append, List.nil_append]
      refine (hld_iff (h.ok _) (h.ok _) (by simp) (fun i hi => hpf i (List.mem_of_mem_take hi)) (fun i hi => hps i (List.mem_of_mem_take hi)) (by rw [List.length_take, List.length_map]; omega)).2 fun x hx => ?_
      obtain ⟨y, hy, hxy⟩ := hag x hx
      refine ⟨y, hy, fun p hpm => hxy p ?_⟩
      have h1 : p ∈ (ps.map Prod.fst).zip (ps.map Prod.snd) := by
        obtain ⟨i, hi⟩ := List.mem_iff_getElem?.1 hpm
        rw [List.getElem?_zip_eq_some] at hi
        have hik : i < k := by have := (List.getElem?_eq_some_iff.1 hi.1).1; rw [List.length_take] at this; omega
        rw [List.getElem?_take_of_lt hik, List.getElem?_take_of_lt hik] at hi
        exact List.mem_of_getElem? (List.getElem?_zip_eq_some.2 hi)
      rw [zip_maps] at h1
      exact hp.mem_iff.1 h1)
  simpa using this
theorem follows_holds {m : Nat} {N : Nat → Nat} {R : Nat → List Row3} (h : DbOk m N R) {L : List DN} (hL : ∀ d ∈ L, VI m N d ∧ hldD R d = true) {g : DN} (hg : VI m N g) (hr : Rch L (g.1, g.2.2.1) (g.2.1, g.2.2.2)) : hldD R g = true := by
  have inv : ∀ s, Rch L (g.1, g.2.2.1) s → ∀ x ∈ R g.1, ∃ y ∈ R s.1, agP x y (g.2.2.1.zip s.2) := by
    intro s hs
    induction hs with
    | start =>
      intro x hx
      refine ⟨x, hx, fun p hp => ?_⟩
      have : p.1 = p.2 := by
        obtain ⟨i, hi⟩ := List.mem_iff_getElem?.1 hp
        rw [List.getElem?_zip_eq_some] at hi
        have := hi.1.symm.trans hi.2
        simpa using this
      rw [this]
    | step d s hd _ ha ih =>
      intro x hx
      obtain ⟨y, hy, hxy⟩ := ih x hx
      unfold appS at ha
      rw [Bool.and_eq_true, List.all_eq_true, decide_eq_true_iff] at ha
      obtain ⟨hvd, hdd⟩ := hL d hd
      obtain ⟨z, hz, hyz⟩ := (hldD_iff h hvd).1 hdd y (by rw [ha.1]; exact hy)
      refine ⟨z, hz, fun p hp => ?_⟩
      have hp' : p ∈ g.2.2.1.zip (s.2.map (goS d)) := hp
      rw [List.zip_map_right] at hp'
      obtain ⟨q, hq, rfl⟩ := List.mem_map.1 hp'
      have hb : q.2 ∈ d.2.2.1 := by
        have := ha.2 q.2 (List.of_mem_zip hq).2
        simpa using this
      exact (hxy q hq).trans (hyz _ (goS_mem hvd.len hb).2)
  exact (hldD_iff h hg).2 (inv _ hr)

end Go.Proofs.YtgahpgmagfngfaaGreatDoor


/- Tables of a database and inclusion dependencies in memory; the walks of drossref15.At and pick. -/
namespace Go.Proofs.YtgahpgmagfngfaaGreatDoor
open Go.RowKit
set_option linter.unusedVariables false

/-! Tables. -/
abbrev D3 := Value × Value × T3
def cDb (d : D3) : List Value := [.string d.2.2.1, d.1, d.2.1]
theorem cDb_length (d : D3) : (cDb d).length = 3 := rfl
def RdDb (w : World) (v : Value) (ds : List D3) : Prop := RdC cDb w v ds ∧ ∀ d ∈ ds, RdT w d.1 d.2.1 d.2.2
theorem RdDb.below {w w' : World} {v : Value} {ds : List D3} (h : RdDb w v ds) (hb : Below w.heap.size w w') : RdDb w' v ds := ⟨RdC.below h.1 hb, fun d hd => (h.2 d hd).below hb⟩
theorem RdDb.split {w : World} {v : Value} {ds : List D3} (h : RdDb w v ds) : ∃ ao cap, v = .slice ao ds.length cap ∧ ds.length ≤ 35184372088832 ∧
    ∀ (k : Nat) (d : D3), ds[k]? = some d → (∃ b off, ao = some ⟨b, off, none⟩ ∧ ∀ wr, Below w.heap.size w wr → wr.cell? ⟨b, off + k * 3, none⟩ = some (.string d.2.2.1) ∧ wr.cell? ⟨b, off + k * 3 + 1, none⟩ = some d.1 ∧ wr.cell? ⟨b, off + k * 3 + 2, none⟩ = some d.2.1) ∧ ∀ wr, Below w.heap.size w wr → RdT wr d.1 d.2.1 d.2.2 := by
  obtain ⟨⟨ao, cap, rfl, -, h2, h3⟩, h4⟩ := h
  refine ⟨ao, cap, rfl, h2, fun k d hd => ⟨?_, fun wr hn => (h4 d (List.mem_of_getElem? hd)).below hn⟩⟩
  obtain ⟨b, off, rfl, hb, hc⟩ := h3 (by have := (List.getElem?_eq_some_iff.1 hd).1; omega)
  refine ⟨b, off, rfl, fun wr hn => ⟨?_, ?_, ?_⟩⟩
  · exact (hn.cell (p := ⟨b, off + k * 3, none⟩) hb).trans (by have := hc _ _ (flat_at cDb_length ds k d 0 _ hd rfl); simpa using this)
  · exact (hn.cell (p := ⟨b, off + k * 3 + 1, none⟩) hb).trans (by have := hc _ _ (flat_at cDb_length ds k d 1 _ hd rfl); simpa [Nat.add_assoc] using this)
  · exact (hn.cell (p := ⟨b, off + k * 3 + 2, none⟩) hb).trans (by have := hc _ _ (flat_at cDb_length ds k d 2 _ hd rfl); simpa [Nat.add_assoc] using this)
/-- The name of a table. -/
def nmT (k : Nat) : ByteArray := ⟨#[UInt8.ofNat (114 + k)]⟩
/-- What is asked of the tables. -/
structure GoodD (ds : List D3) : Prop where
  few : ds.length ≤ 3
  name : ∀ (k : Nat) (d : D3), ds[k]? = some d → d.2.2.1 = nmT k
  tab : ∀ d ∈ ds, tabE d.2.2 = 0
  att : ∀ d ∈ ds, d.2.2.2.1.length ≤ 3
  row : ∀ d ∈ ds, d.2.2.2.2.length ≤ 6
  ok : ∀ d ∈ ds, RowsOk d.2.2.2.1.length d.2.2.2.2
def nD (ds : List D3) (k : Nat) : Nat := match ds[k]? with
  | some d => d.2.2.2.1.length
  | none => 0
def rD (ds : List D3) (k : Nat) : List Row3 := match ds[k]? with
  | some d => d.2.2.2.2
  | none => []
theorem nD_at {ds : List D3} {k : Nat} {d : D3} (h : ds[k]? = some d) : nD ds k = d.2.2.2.1.length := by unfold nD; rw [h]
theorem rD_at {ds : List D3} {k : Nat} {d : D3} (h : ds[k]? = some d) : rD ds k = d.2.2.2.2 := by unfold rD; rw [h]
theorem GoodD.db {ds : List D3} (h : GoodD ds) : DbOk ds.length (nD ds) (rD ds) := by
  refine ⟨h.few, fun k => ?_, fun k => ?_⟩
  · cases hk : ds[k]? with
    | none => unfold nD; rw [hk]; exact Nat.zero_le _
    | some d => rw [nD_at hk]; exact h.att d (List.mem_of_getElem? hk)
  · cases hk : ds[k]? with
    | none => unfold nD rD; rw [hk]; intro r hr; cases hr
    | some d => rw [nD_at hk, rD_at hk]; exact h.ok d (List.mem_of_getElem? hk)
theorem nmT_inj {i k : Nat} (hi : i < 100) (hk : k < 100) (h : nmT i = nmT k) : i = k := by
  unfold nmT at h
  have h1 := congrArg (fun b : ByteArray => b.data.toList) h
  simp only [List.cons.injEq, and_true] at h1
  have h2 := congrArg UInt8.toNat h1
  simp only [UInt8.toNat_ofNat'] at h2
  omega

/-! Dependencies. -/
abbrev I6 := Value × Value × DN
def cI (x : I6) : List Value := [.string (nmT x.2.2.1), x.1, .string (nmT x.2.2.2.1), x.2.1]
theorem cI_length (x : I6) : (cI x).length = 4 := rfl
def RdI (w : World) (v : Value) (xs : List I6) : Prop := RdC cI w v xs ∧ ∀ x ∈ xs, RdE encI w x.1 x.2.2.2.2.1 ∧ RdE encI w x.2.1 x.2.2.2.2.2
theorem RdI.below {w w' : World} {v : Value} {xs : List I6} (h : RdI w v xs) (hb : Below w.heap.size w w') : RdI w' v xs := ⟨RdC.below h.1 hb, fun x hx => ⟨(h.2 x hx).1.below hb, (h.2 x hx).2.below hb⟩⟩
theorem RdI.split {w : World} {v : Value} {xs : List I6} (h : RdI w v xs) : ∃ ao cap, v = .slice ao xs.length cap ∧ xs.length ≤ 35184372088832 ∧
    ∀ (k : Nat) (x : I6), xs[k]? = some x → (∃ b off, ao = some ⟨b, off, none⟩ ∧ ∀ wr, Below w.heap.size w wr → wr.cell? ⟨b, off + k * 4, none⟩ = some (.string (nmT x.2.2.1)) ∧ wr.cell? ⟨b, off + k * 4 + 1, none⟩ = some x.1 ∧ wr.cell? ⟨b, off + k * 4 + 2, none⟩ = some (.string (nmT x.2.2.2.1)) ∧ wr.cell? ⟨b, off + k * 4 + 3, none⟩ = some x.2.1) ∧
      ∀ wr, Below w.heap.size w wr → RdE encI wr x.1 x.2.2.2.2.1 ∧ RdE encI wr x.2.1 x.2.2.2.2.2 := by
  obtain ⟨⟨ao, cap, rfl, -, h2, h3⟩, h4⟩ := h
  refine ⟨ao, cap, rfl, h2, fun k d hd => ⟨?_, fun wr hn => ⟨(h4 d (List.mem_of_getElem? hd)).1.below hn, (h4 d (List.mem_of_getElem? hd)).2.below hn⟩⟩⟩
  obtain ⟨b, off, rfl, hb, hc⟩ := h3 (by have := (List.getElem?_eq_some_iff.1 hd).1; omega)
  refine ⟨b, off, rfl, fun wr hn => ⟨?_, ?_, ?_, ?_⟩⟩
  · exact (hn.cell (p := ⟨b, off + k * 4, none⟩) hb).trans (by have := hc _ _ (flat_at cI_length xs k d 0 _ hd rfl); simpa using this)
  · exact (hn.cell (p := ⟨b, off + k * 4 + 1, none⟩) hb).trans (by have := hc _ _ (flat_at cI_length xs k d 1 _ hd rfl); simpa [Nat.add_assoc] using this)
  · exact (hn.cell (p := ⟨b, off + k * 4 + 2, none⟩) hb).trans (by have := hc _ _ (flat_at cI_length xs k d 2 _ hd rfl); simpa [Nat.add_assoc] using this)
  · exact (hn.cell (p := ⟨b, off + k * 4 + 3, none⟩) hb).trans (by have := hc _ _ (flat_at cI_length xs k d 3 _ hd rfl); simpa [Nat.add_assoc] using this)

theorem at15_any (l : List Nat) (v : Value) (k : Nat) (w : World) (hv : RdE encI w v l) :
    Calls Tryz.prog 47 #[v, .int .i64 (k : Int)] w fun e w' => ((k ∉ l ∧ e = .returned (.int .i64 (-1))) ∨ (k ∈ l ∧ ∃ p : Nat, e = .returned (.int .i64 (p : Int)))) ∧ Below w.heap.size w w' := by
  obtain ⟨ao, cap, rfl, hl, hc⟩ := hv.split
  have HC := hid hc
  unfold encI at HC
  clear hc hv
  go_enter Tryz.func47, Tryz.ntmps47
  go_wp2_with fail
  go_loopw [5] (fun i wr => ∃ j : Nat, j ≤ l.length ∧ i = .int .i64 j ∧ Hid (k ∉ l.take j) ∧ Below w.heap.size w wr) (fun i _ => l.length - (intOf i).toNat)
  case atStart => exact ⟨0, Nat.zero_le _, rfl, hid (by simp), Below.refl _ _⟩
  case round =>
    obtain ⟨j, hj, rfl, H, hnx⟩ := hrel
    have NX := hid hnx
    have j0 : (0 : Int) ≤ (j : Int) := by omega
    by_cases hlt : j < l.length
    · obtain ⟨x, hx⟩ := get_some hlt
      obtain ⟨b, off, rfl, hd⟩ := HC.out j x hx
      have e0 := hd wr hnx
      have TN := hid (take_next hx)
      have MX := hid (List.mem_of_getElem? hx)
      clear hd hx hnx
      cases hq : ((x : Int) == (k : Int)) with
      | true =>
        have XK := hid (show k ∈ l by have h := beq_iff_eq.1 hq; have : x = k := by omega
                                      rw [← this]; exact MX.out)
        go_wp2_with fail
        go_ret
        exact ⟨.inr ⟨XK.out, j, rfl⟩, NX.out⟩
      | false =>
        have AN := hid (show k ∉ l.take (j + 1) by
          rw [TN.out, List.mem_append, List.mem_singleton]
          rintro (h | h)
          · exact H.out h
          · rw [h, beq_self_eq_true] at hq; cases hq)
        go_wp2_with fail
        go_roundw
        case rel => exact ⟨j + 1, by omega, by go_num, AN, NX.out⟩
        case measure => simp [intOf]; omega
    · have AN := hid (show k ∉ l by have h := H.out; rwa [List.take_of_length_le (by omega)] at h)
      clear hnx
      go_wp2_with fail
      go_ret
      exact ⟨.inl ⟨AN.out, rfl⟩, NX.out⟩

def PickQ (n : Nat) (w : World) (e : Ending) (w' : World) : Prop :=
  ∃ (v' : Value) (out : List Nat), e = .returned v' ∧ w'.ownsRow w.heap.size 3 1 v' out.length (out.map encI) ∧ out.Nodup ∧ (∀ a ∈ out, a < n) ∧ Below w.heap.size w w'

end Go.Proofs.YtgahpgmagfngfaaGreatDoor

