/- The law AgreeLarge. -/
import Derived.Test.YtkehelplmipenaaTab33
import Derived.Test.YtkehelplmipenaaTab24
namespace Go.Proofs.Ytkehelplmipenaa
open Go.RowKit
set_option linter.unusedVariables false

def numV (n : Int) : V3 := (1, n, ByteArray.mk #[])
def rowL (K i : Nat) : Int × List V3 := ((i : Int) + 1, [numV ((i % 3 : Nat) : Int), numV ((i % K : Nat) : Int)])
def largeL (K N : Nat) : List (Int × List V3) := (List.range N).map (rowL K)
theorem largeL_at {K N i : Nat} (h : i < N) : (largeL K N)[i]? = some (rowL K i) := by unfold largeL; rw [List.getElem?_map, List.getElem?_range h]; rfl
theorem numV_ok (n : Int) : badV (numV n) = false := by
  unfold badV validV numV
  rw [ByteArray.toList_eq]
  rfl
theorem rowsE_inc (m : Nat) : ∀ (rs : List Row3) (k : Nat) (last : Int), (∀ (j : Nat) (r : Row3), rs[j]? = some r → r.1 = (k : Int) + j + 1 ∧ r.2.2.length = m ∧ r.2.2.any badV = false) → last < (k : Int) + 1 → rowsE last m rs = 0 := by
  intro rs
  induction rs with
  | nil => intro k last _ _; rfl
  | cons r rs ih =>
    intro k last h hl
    obtain ⟨h1, h2, h3⟩ := h 0 r rfl
    unfold rowsE
    rw [if_neg (by rw [h1]; simp; omega), if_neg (by rw [h2]; simp), if_neg (by rw [h3]; simp)]
    refine ih (k + 1) r.1 (fun j r' hr' => ?_) (by rw [h1]; simp; omega)
    obtain ⟨a, b, c⟩ := h (j + 1) r' (by simpa using hr')
    exact ⟨by rw [a]; simp; omega, b, c⟩
def exL (rs : List Row3) : T3 := (ByteArray.mk #[114], [ByteArray.mk #[97], ByteArray.mk #[98]], rs)
theorem large_tab {K N : Nat} {rs : List Row3} (h : rs.map (fun r => (r.1, r.2.2)) = largeL K N) (hN : N ≤ 1000) : tabE2 (exL rs) = if 200 < N then 3 else 0 := by
  have hl : rs.length = N := by have := congrArg List.length h; simpa [largeL] using this
  have h3 : rowsE 0 2 rs = 0 := by
    refine rowsE_inc 2 rs 0 0 (fun j r hr => ?_) (by simp)
    have e := congrArg (fun l => l[j]?) h
    simp only [List.getElem?_map, hr, Option.map_some] at e
    have hj : j < N := by have := (List.getElem?_eq_some_iff.1 hr).1; omega
    rw [largeL_at hj, Option.some.injEq, Prod.mk.injEq] at e
    refine ⟨by rw [e.1]; show (j : Int) + 1 = _; simp, by rw [e.2]; rfl, ?_⟩
    rw [e.2]
    show (badV (numV _) || (badV (numV _) || false)) = false
    rw [numV_ok, numV_ok]; rfl
  have hnm : nameB (ByteArray.mk #[114]) = true := nm_ok.1
  have hat : attrsBad [ByteArray.mk #[97], ByteArray.mk #[98]] = false := nm_attrs 2
  have h4 : tabE (exL rs) = 0 := by
    unfold tabE exL
    simp only
    rw [hnm, hat, if_neg (by simp), if_neg (by simp; omega), if_neg (by simp)]
    exact h3
  unfold tabE2
  rw [h4, if_neg (by simp)]
  show (if 200 < rs.length then (3 : Int) else 0) = _
  rw [hl]
theorem fpS_some : ∀ {rs : List Row3} {s : S}, s ∈ pairsS rs → (fpS rs s).isSome = true := by
  have hw : ∀ (r : Row3) (s : S) (qs : List Row3) (d : Option (Int × Int)), (∃ q ∈ qs, pairS r q = s) ∨ d.isSome = true → (witIn r s qs d).isSome = true := by
    intro r s qs d
    induction qs with
    | nil => rintro (⟨q, hq, _⟩ | h); · cases hq
             · exact h
    | cons q qs ih =>
      intro h
      unfold witIn
      cases hq : (pairS r q == s) with
      | true => rfl
      | false =>
        refine ih ?_
        rcases h with ⟨p, hp, e⟩ | h
        · rcases List.mem_cons.1 hp with rfl | hp
          · rw [e] at hq; simp at hq
          · exact .inl ⟨p, hp, e⟩
        · exact .inr h
  intro rs
  induction rs with
  | nil => intro s h; simp [pairsS] at h
  | cons r rs ih =>
    intro s h
    unfold pairsS at h
    unfold fpS
    refine hw r s rs _ ?_
    rcases List.mem_append.1 h with h | h
    · obtain ⟨q, hq, e⟩ := List.mem_map.1 h
      exact .inl ⟨q, hq, e⟩
    · exact .inr (ih h)
def l0S (l : List C2) : S := match l with | [] => 0#32 | c :: _ => c.1
theorem wit_first {t : T3} (h : tabE2 t = 0) (hp : pairsS t.2.2 ≠ []) : (witE t (l0S (setsL t))).isSome = true := by
  unfold witE setsL
  rw [if_pos h, if_pos h]
  have hne : cntL (pairsS t.2.2) ≠ [] := by
    obtain ⟨s, hs⟩ := List.exists_mem_of_ne_nil _ hp
    have : s ∈ ordS (pairsS t.2.2) := ((ordS_ord _).2 s).2 hs
    unfold cntL
    intro e
    rw [List.map_eq_nil_iff] at e
    rw [e] at this; cases this
  cases hc : cntL (pairsS t.2.2) with
  | nil => exact absurd hc hne
  | cons c cs =>
    refine fpS_some ?_
    show c.1 ∈ pairsS t.2.2
    have : c ∈ cntL (pairsS t.2.2) := by rw [hc]; simp
    unfold cntL at this
    obtain ⟨s, hs, rfl⟩ := List.mem_map.1 this
    exact ((ordS_ord _).2 s).1 hs
theorem wit_none {t : T3} (h : tabE2 t ≠ 0) (s : S) : witE t s = none := by unfold witE; rw [if_neg h]
theorem l0_any (l : List C2) (v : Value) (w : World) (hv : RdCt w v l) :
    Calls Try.prog 30 #[v] w fun e w' => e = .returned (.int .u32 (iv (l0S l))) ∧ w = w' := by
  obtain ⟨ao, cap, rfl, hl, hc⟩ := RdCt.split hv
  cases l with
  | nil =>
    clear hc
    go_enter Try.func30, Try.ntmps30
    go_wp2_with fail
    go_ret
    exact ⟨rfl, rfl⟩
  | cons c cs =>
    obtain ⟨b, off, rfl, hd⟩ := hc 0 c rfl
    obtain ⟨e0, e1⟩ := hd w (Below.refl _ _)
    have hlen : 0 < (c :: cs).length := by simp
    have hne : (((c :: cs).length : Int) == 0) = false := by rw [beq_eq_false_iff_ne]; omega
    have hp : (0 : Int) < ((c :: cs).length : Int) := by omega
    have LS := hid (show l0S (c :: cs) = c.1 from rfl)
    rw [LS.out]
    generalize (c :: cs).length = n at *
    clear hd hc
    simp only [Nat.zero_mul, Nat.add_zero] at e0 e1
    go_enter Try.func30, Try.ntmps30
    go_wp2_with fail
    go_ret
    exact ⟨rfl, rfl⟩
theorem step_pushB {α : Type} {P : Program} {w : World} {ops : Array Oper} {o : Oper} {a : Act} {K : Act → World → Prop} {Q : Exit → Act → World → Prop} {E : Prop} (hgd : o.guard = none) (s x : Operand) (t : TypeId)
    (ho : o.op = .call { callee := .builtin .append, args := #[s, x], argTypes := #[t, t] })
    (B : Nat) (e : TypeId) (z : Value) (n bytes : Nat) (ht : P.underlying t = some (.slice e)) (hinfo : (P.info? e).map (fun i => (i.zero, i.size, i.bytes)) = some (some z, n, bytes)) (hz : z.cells.size = n) (hn : 0 < n) (hb8 : bytes ≤ 64)
    (c : α → List Value) (hc : ∀ y, (c y).length = n) (v : Value) (xs : List α) (hs : a.eval s = v) (hown : w.ownsRow B e n v xs.length (xs.flatMap c))
    (ad : Addr) (y : α) (hf : ∀ u ∈ c y, u.oneCell' = true) (hx : a.eval x = .slice (some ad) 1 1) (hy : ∀ j u, (c y)[j]? = some u → w.cell? (ad.add j) = some u) (hl : xs.length < 2199023255552) (hB : B ≤ w.heap.size)
    (h : ∀ v' w', w'.ownsRow B e n v' (xs ++ [y]).length ((xs ++ [y]).flatMap c) → w.grownBy w' v.ownBlock → (v'.ownBlock = v.ownBlock ∨ v'.ownBlock = some w.heap.size) → K (a.put o.dst v') w') :
    if Region.wanted o (yielded ops a.tmps) = true then Oper.wp P o a w K Q else E := by
  obtain ⟨i, hi, hz0, hz1, hz2⟩ := info_parts hinfo
  refine step_append_lies w hgd s x t ho B e i z n bytes ht hi hz0 hz1 hz2 hz hn v xs.length (xs.flatMap c) hs hown ad 1 1 (c y) hx (by rw [hc, Nat.one_mul]) hy hf (by omega) ?_ ?_ hB _ rfl ?_
  · unfold maxLen; omega
  · refine Nat.le_trans (Nat.mul_le_mul_left _ hb8) ?_; omega
  · intro g cap w' h1 h2 h3 _
    refine h _ w' ?_ h2 (h3.elim (fun e => .inl e.symm) fun e => .inr (by rw [e]; rfl))
    simpa using h1

end Go.Proofs.Ytkehelplmipenaa
