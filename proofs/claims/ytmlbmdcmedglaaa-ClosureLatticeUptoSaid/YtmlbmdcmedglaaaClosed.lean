/- The walks of Closed, the program's and the reference's: all closed sets of the first attributes, in order. -/
import Derived.Test.YtmlbmdcmedglaaaSubs
import Derived.Test.YtmlbmdcmedglaaaFdV
import Derived.Test.YtmlbmdcmedglaaaRefOrd
import Derived.Test.YtmlbmdcmedglaaaFullL
namespace Go.Proofs.Ytmlbmdcmedglaaa
open Go.RowKit

theorem filter_next {α : Type} {xs : List α} {k : Nat} {x : α} (h : xs[k]? = some x) (p : α → Bool) : (xs.take (k + 1)).filter p = (xs.take k).filter p ++ (if p x then [x] else []) := by
  rw [take_next h, List.filter_append]
  cases hp : p x <;> simp [hp]
theorem shl_full {m : Nat} (h : m < 32) : 1#32 <<< m - 1#32 = fullN m := by
  apply BitVec.eq_of_toNat_eq
  rw [fullN_toNat m (by omega), BitVec.toNat_sub, BitVec.toNat_shiftLeft]
  have h1 : 2 ^ m < 2 ^ 32 := Nat.pow_lt_pow_right (by omega) h
  have h2 : 0 < 2 ^ m := Nat.two_pow_pos m
  simp [Nat.shiftLeft_eq]
  omega
theorem pop_full12 {m : Nat} (h : m ≤ 12) : pop (fullN m) ≤ 12 := by
  have : ∀ k : Fin 13, pop (fullN k.val) ≤ 12 := by decide +kernel
  exact this ⟨m, by omega⟩
theorem le_full {m : Nat} {s : S} : s.toNat < 2 ^ m ↔ sub s (fullN m) := by
  rw [sub_full]
  constructor
  · intro hs
    apply BitVec.eq_of_toNat_eq
    rw [BitVec.toNat_ushiftRight, Nat.shiftRight_eq_div_pow, Nat.div_eq_of_lt hs]; rfl
  · intro hs
    have := congrArg BitVec.toNat hs
    rw [BitVec.toNat_ushiftRight, Nat.shiftRight_eq_div_pow] at this
    have h2 := Nat.two_pow_pos m
    exact (Nat.div_eq_zero_iff_lt h2).1 (by simpa using this)

def closedB (fs : List F) (s : S) : Bool := decide (closedF fs s)
theorem enlI_yes {fs : List F} {s : S} (h : closedB fs s = true) : enlI fs s < 0 := by
  have h1 : closedF fs s := of_decide_eq_true h
  unfold enlI; rw [enlI_none (closed_iff.1 h1)]; decide
theorem enlI_no {fs : List F} {s : S} (h : closedB fs s = false) : ¬ enlI fs s < 0 := by
  have h1 : ¬ closedF fs s := of_decide_eq_false h
  unfold enlI
  split
  · rename_i hn
    exfalso; apply h1; rw [closed_iff, List.any_eq_false]
    rw [List.findIdx?_eq_none_iff] at hn
    intro x hx; simpa using hn x hx
  · omega
/-- The error of Closed, and what it lists. -/
def cloE (n : Int) (fs : List F) : Int := if n < 0 ∨ 16 < n then 7 else if 12 < n then 3 else validF n fs
def ClosedP (n : Int) (fs : List F) (ys : List S) : Prop := (cloE n fs ≠ 0 → ys = []) ∧ (cloE n fs = 0 → IsOrd ys (fun s => sub s (fullN n.toNat) ∧ closedF fs s))
theorem ClosedP.uniq {n : Int} {fs : List F} {xs ys : List S} (h : ClosedP n fs xs) (k : ClosedP n fs ys) : xs = ys := by
  by_cases e : cloE n fs = 0
  · exact (h.2 e).uniq (k.2 e) fun _ => Iff.rfl
  · rw [h.1 e, k.1 e]
theorem ClosedP.bad {n : Int} {fs : List F} (h : cloE n fs ≠ 0) : ClosedP n fs [] := ⟨fun _ => rfl, fun e => absurd e h⟩
theorem cloE_mid {n : Int} {fs : List F} (h0 : ¬ n < 0) (h1 : ¬ 12 < n) : cloE n fs = validF n fs := by unfold cloE; rw [if_neg (by omega), if_neg h1]

/-- What Closed leaves: an error r, and a list of the call's own. -/
def ClosedPost (n : Int) (fs : List F) (r : Int) (w : World) (e : Ending) (w' : World) : Prop := ∃ v' ys, e = .returned (.tuple #[v', .int .i64 r]) ∧ w'.ownsRow w.heap.size 28 1 v' ys.length (ys.map enc) ∧ ClosedP n fs ys ∧ ys.length ≤ 4294967297 ∧ Below w.heap.size w w'

set_option maxHeartbeats 2000000 in
theorem closed_ok (n : Int) (fs : List F) (v : Value) (w : World) (hv : RdF w v fs) (h0 : ¬ n < 0) (h12 : ¬ 12 < n) (hq : validF n fs = 0) :
    Calls Try.prog 23 #[.int .i64 n, v] w (ClosedPost n fs (cloE n fs) w) := by
  have V := hid (validF_any n fs v w hv)
  have VZ := hid hq
  clear hq
  have CZ := hid ((cloE_mid (fs := fs) h0 h12).trans VZ.out)
  rw [CZ.out]
  rw [VZ.out] at V
  have h16 : ¬ 16 < n := by omega
  obtain ⟨m, rfl⟩ : ∃ m : Nat, n = m := ⟨n.toNat, by omega⟩
  have hm : m ≤ 12 := by omega
  have SB := hid (fun W => asubsets_any (1#32 <<< m - 1#32) W)
  have EN := hid (fun (s : S) (W : World) (hb : Below w.heap.size w W) => enlarges_any fs s v W (hv.below hb))
  have SF := hid (shl_full (show m < 32 by omega))
  have PF := hid (pop_full12 hm)
  obtain ⟨ao, cap, rfl, -⟩ := hv.split
  clear hv VZ
  simp only [enc_eq] at SB EN
  go_enter Try.func23, Try.ntmps23
  go_wp2_with fail
  refine (V.out).mono ?_
  rintro e w1 ⟨rfl, hb1⟩
  have B1 := hid hb1
  clear hb1
  go_wp2_with fail
  refine (SB.out _).mono ?_
  rintro e w2 ⟨v2, ys, rfl, hown2, hsp, hyl, hb2⟩
  have B2 := hid (B1.out.trans (hb2.mono B1.out.size))
  have HS := hid (hsp.2 (by rw [SF.out]; exact PF.out))
  have RD := hid (RdE.of_owns hown2 (by omega))
  obtain ⟨ao2, cap2, rfl⟩ : ∃ ao2 cap2, v2 = .slice ao2 ys.length cap2 := by obtain ⟨a, c, h, _⟩ := RD.out; exact ⟨a, c, h⟩
  clear hown2 hsp hb2 SB
  have OR := hid HS.out
  clear HS
  have R2 := B2
  go_wp2_with fail
  have hs2 := B2.out.size
  go_loopw [7, 31] (fun u i wr => ∃ k : Nat, k ≤ ys.length ∧ i = .int .i64 k ∧ wr.ownsRow w2.heap.size 28 1 u ((ys.take k).filter (closedB fs)).length (((ys.take k).filter (closedB fs)).map enc) ∧ Below w2.heap.size w2 wr) (fun _ i _ => ys.length - (intOf i).toNat)
  case atStart => exact ⟨0, Nat.zero_le _, rfl, World.ownsRow_nil _ _ _ _, Below.refl _ _⟩
  case round =>
    obtain ⟨k, hk, rfl, hown, hnx⟩ := hrel
    have hsz := hnx.size
    have hfl : ((ys.take k).filter (closedB fs)).length ≤ k := Nat.le_trans (List.length_filter_le _ _) (by simp; omega)
    by_cases hlt : k < ys.length
    · obtain ⟨x, hx⟩ := get_some hlt
      obtain ⟨b, off, hao, hbw, hc⟩ : ∃ b off, ao2 = some ⟨b, off, none⟩ ∧ b < w2.heap.size ∧ ∀ (i : Nat) (x : S), ys[i]? = some x → w2.cell? ⟨b, off + i, none⟩ = some (enc x) := by
        obtain ⟨a, c, h, _, _, h3⟩ := RD.out
        cases h
        exact h3 (by omega)
      subst hao
      have e1 : wr.cell? ⟨b, off + k, none⟩ = some (.int .u32 (iv x)) := (hnx.cell (p := ⟨b, off + k, none⟩) hbw).trans (hc k x hx)
      have FN := hid (filter_next hx (closedB fs))
      have BW := hid (B2.out.trans (hnx.mono hs2))
      clear hc hx
      generalize (ys.take k).filter (closedB fs) = zs at *
      cases hq : closedB fs x with
      | true =>
        have hen : decide (enlI fs x < 0) = true := decide_eq_true (enlI_yes hq)
        have FN2 := hid (FN.out.trans (by rw [if_pos hq]))
        clear FN hq
        have E1 := hid (EN.out x)
        generalize enlI fs x = r at E1 hen
        go_wp2_with fail
        refine (E1.out _ BW.out).mono ?_
        rintro e w3 ⟨rfl, hb3⟩
        have hown3 := own_below hown hb3
        have hnx3 := hnx.trans (hb3.mono hnx.size)
        have hsz3 := hnx3.size
        clear hb3 hown hnx e1 hbw
        go_wp2_with (at_builtin; refine wpList_push rfl _ _ 41 rfl w2.heap.size 28 (.int .u32 0) 4 undSets infoSet rfl (by decide) enc (fun _ => rfl) _ zs rfl (hown3.alloc _) ⟨w3.heap.size, 0, none⟩ x rfl cell_new (by omega) (by simp; omega) ?_)
        intro v' w4 hown' hgrow
        have hb4 := below_push hnx3 hsz3 hown3 hgrow
        clear hgrow hown3 hnx3
        go_wp2_with fail
        go_roundw
        case rel => exact ⟨k + 1, by omega, by go_num, by rw [FN2.out]; simpa using hown', hb4⟩
        case measure => simp [intOf]; omega
      | false =>
        have hen : decide (enlI fs x < 0) = false := decide_eq_false (enlI_no hq)
        have FN2 := hid (FN.out.trans (by rw [if_neg (by simp [hq]), List.append_nil]))
        clear FN hq
        have E1 := hid (EN.out x)
        generalize enlI fs x = r at E1 hen
        go_wp2_with fail
        refine (E1.out _ BW.out).mono ?_
        rintro e w3 ⟨rfl, hb3⟩
        have hown3 := own_below hown hb3
        have hnx3 := hnx.trans (hb3.mono hnx.size)
        clear hb3 hown hnx e1 hbw
        go_wp2_with fail
        go_roundw
        case rel => exact ⟨k + 1, by omega, by go_num, by rw [FN2.out]; exact hown3, hnx3⟩
        case measure => simp [intOf]; omega
    · have BW := hid (B2.out.trans (hnx.mono hs2))
      have HF := hid (show ClosedP m fs (ys.filter (closedB fs)) from ⟨fun h => absurd CZ.out h, fun _ => (OR.out.filter (closedB fs)).congr fun s => by rw [SF.out]; unfold closedB; rw [decide_eq_true_iff]; rfl⟩)
      rw [take_all hlt] at hown hfl
      have HO := hid (own_mono hown hs2)
      clear hown hnx
      go_wp2_with fail
      go_ret2
      exact ⟨_, _, rfl, HO.out, HF.out, by omega, BW.out⟩

set_option maxHeartbeats 800000 in
theorem closed_any (n : Int) (fs : List F) (v : Value) (w : World) (hv : RdF w v fs) :
    Calls Try.prog 23 #[.int .i64 n, v] w (ClosedPost n fs (cloE n fs) w) := by
  by_cases ha : n < 0 ∨ 16 < n
  · have e : cloE n fs = 7 := by unfold cloE; rw [if_pos ha]
    have BP := hid (ClosedP.bad (n := n) (fs := fs) (by rw [e]; decide))
    rw [e]; clear e
    obtain ⟨ao, cap, rfl, -⟩ := hv.split
    clear hv
    rcases ha with ha | ha
    · go_enter Try.func23, Try.ntmps23
      go_wp2_with fail
      go_ret2
      exact ⟨_, [], rfl, World.ownsRow_nil _ _ _ _, BP.out, by simp, Below.refl _ _⟩
    · have h0 : ¬ n < 0 := by omega
      go_enter Try.func23, Try.ntmps23
      go_wp2_with fail
      go_ret2
      exact ⟨_, [], rfl, World.ownsRow_nil _ _ _ _, BP.out, by simp, Below.refl _ _⟩
  · have h0 : ¬ n < 0 := by omega
    have h16 : ¬ 16 < n := by omega
    by_cases h12 : 12 < n
    · have e : cloE n fs = 3 := by unfold cloE; rw [if_neg ha, if_pos h12]
      have BP := hid (ClosedP.bad (n := n) (fs := fs) (by rw [e]; decide))
      rw [e]; clear e ha
      obtain ⟨ao, cap, rfl, -⟩ := hv.split
      clear hv
      go_enter Try.func23, Try.ntmps23
      go_wp2_with fail
      go_ret2
      exact ⟨_, [], rfl, World.ownsRow_nil _ _ _ _, BP.out, by simp, Below.refl _ _⟩
    · have CE := hid (cloE_mid (fs := fs) h0 h12)
      clear ha
      have V := hid (validF_any n fs v w hv)
      cases hq : (validF n fs != 0) with
      | true =>
        have BP := hid (ClosedP.bad (n := n) (fs := fs) (by rw [CE.out]; simpa using hq))
        rw [CE.out]
        obtain ⟨ao, cap, rfl, -⟩ := hv.split
        clear hv
        generalize validF n fs = r at *
        go_enter Try.func23, Try.ntmps23
        go_wp2_with fail
        refine (V.out).mono ?_
        rintro e w1 ⟨rfl, hb1⟩
        have B1 := hid hb1
        clear hb1
        go_wp2_with fail
        go_ret2
        exact ⟨_, [], rfl, World.ownsRow_nil _ _ _ _, BP.out, by simp, B1.out⟩
      | false =>
        exact closed_ok n fs v w hv h0 h12 (by simpa using hq)

set_option maxHeartbeats 800000 in
theorem refClosed_any (n : Int) (fs : List F) (v : Value) (w : World) (hv : RdF w v fs) :
    Calls Try.prog 24 #[.int .i64 n, v] w (ClosedPost n fs (cloE n fs) w) := by
  by_cases h12 : 0 ≤ n ∧ n ≤ 16 ∧ 12 < n
  · obtain ⟨h1, h2, h3⟩ := h12
    have e : cloE n fs = 3 := by unfold cloE; rw [if_neg (by omega), if_pos h3]
    have BP := hid (ClosedP.bad (n := n) (fs := fs) (by rw [e]; decide))
    rw [e]; clear e
    obtain ⟨ao, cap, rfl, -⟩ := hv.split
    clear hv
    go_enter Try.func24, Try.ntmps24
    go_wp2_with fail
    go_ret2
    exact ⟨_, [], rfl, World.ownsRow_nil _ _ _ _, BP.out, by simp, Below.refl _ _⟩
  · have CE := hid (show cloE n fs = validF n fs by
      unfold cloE
      by_cases hn : n < 0 ∨ 16 < n
      · rw [if_pos hn]; unfold validF; rw [if_pos hn]
      · rw [if_neg hn, if_neg (by omega)])
    have V := hid (refValidF_any n fs v w hv)
    have hg : (0 ≤ n ∧ n ≤ 16 ∧ ¬ 12 < n) ∨ (0 ≤ n ∧ ¬ n ≤ 16) ∨ ¬ 0 ≤ n := by omega
    cases hq : (validF n fs != 0) with
    | true =>
      have BP := hid (ClosedP.bad (n := n) (fs := fs) (by rw [CE.out]; simpa using hq))
      rw [CE.out]
      obtain ⟨ao, cap, rfl, -⟩ := hv.split
      clear hv h12
      generalize validF n fs = r at *
      rcases hg with ⟨g1, g2, g3⟩ | ⟨g1, g2⟩ | g1
      all_goals
        go_enter Try.func24, Try.ntmps24
        go_wp2_with fail
        refine (V.out).mono ?_
        rintro e w' ⟨rfl, rfl⟩
        go_wp2_with fail
        go_ret2
        exact ⟨_, [], rfl, World.ownsRow_nil _ _ _ _, BP.out, by simp, Below.refl _ _⟩
    | false =>
      have VZ := hid (show validF n fs = 0 by simpa using hq)
      have hb := VZ.out
      have hrange : ¬ (n < 0 ∨ 16 < n) := fun h => by unfold validF at hb; rw [if_pos h] at hb; cases hb
      clear hb hq
      have g1 : 0 ≤ n := by omega
      have g2 : n ≤ 16 := by omega
      have g3 : ¬ 12 < n := by omega
      have CZ := hid (CE.out.trans VZ.out)
      rw [CZ.out]
      rw [VZ.out] at V
      clear hg h12 hrange
      obtain ⟨m, rfl⟩ : ∃ m : Nat, n = m := ⟨n.toNat, by omega⟩
      have hm : m ≤ 12 := by omega
      have FU := hid (full_any m)
      rw [show min (m : Int).toNat 32 = m by omega] at FU
      have IC := hid (fun (s : S) (W : World) (hb : Below w.heap.size w W) => isClosed_any fs s v W (hv.below hb))
      have O := hid (fun (xs : List S) (v : Value) (W : World) (hv : RdE enc W v xs) (h : xs.length < 17592186044416) => refOrder_any xs v W hv h)
      obtain ⟨ao, cap, rfl, -⟩ := hv.split
      clear hv CE VZ
      have hp : 2 ^ m ≤ 2 ^ 12 := Nat.pow_le_pow_right (by omega) hm
      have hfn := fullN_toNat m (by omega)
      have hp0 := Nat.two_pow_pos m
      have LF := hid (fun s : S => le_full (m := m) (s := s))
      have CN := hid (fun s : S => show closedB fs s = decide (closedF fs s) from rfl)
      simp only [enc_eq] at IC FU
      generalize hN : 2 ^ m = N at *
      generalize hG : fullN m = G at *
      have HG := hid hG
      clear hN hG
      go_enter Try.func24, Try.ntmps24
      go_wp2_with fail
      refine (V.out).mono ?_
      rintro e w' ⟨rfl, rfl⟩
      go_wp2_with fail
      go_loopw [7, 8] (fun u i wr => ∃ (x : S) (xs : List S), i = .int .u32 (iv x) ∧ wr.ownsRow w.heap.size 28 1 u xs.length (xs.map enc) ∧ x.toNat ≤ N ∧ xs.length ≤ x.toNat ∧ Hid (∀ y, y ∈ xs ↔ closedF fs y ∧ y.toNat < x.toNat) ∧ Below w.heap.size w wr) (fun _ i _ => N - (intOf i).toNat)
      case atStart => exact ⟨0#32, [], rfl, World.ownsRow_nil _ _ _ _, by simp, by simp, hid (by simp), Below.refl _ _⟩
      case round =>
        obtain ⟨x, xs, rfl, hown, hxN, hlen, M, hnx⟩ := hrel
        have hsz := hnx.size
        have hx1 : (x + 1#32).toNat = x.toNat + 1 := by rw [BitVec.toNat_add]; simp; omega
        by_cases hlt : x.toNat < N
        · have hle : iv x ≤ iv G := by unfold iv; omega
          cases hq : closedB fs x with
          | true =>
            have M2 := hid (show ∀ y, y ∈ xs ++ [x] ↔ closedF fs y ∧ y.toNat < (x + 1#32).toNat by
              intro y
              rw [List.mem_append, List.mem_singleton, M.out y, hx1]
              constructor
              · rintro (⟨h1, h2⟩ | rfl)
                · exact ⟨h1, by omega⟩
                · exact ⟨of_decide_eq_true hq, by omega⟩
              · rintro ⟨h1, h2⟩
                by_cases h : y.toNat < x.toNat
                · exact .inl ⟨h1, h⟩
                · exact .inr (BitVec.eq_of_toNat_eq (by omega)))
            have Q := hid ((CN.out x).symm.trans hq)
            clear hq M
            go_wp2_with fail
            refine (FU.out _).mono ?_
            rintro e w' ⟨rfl, rfl⟩
            go_wp2_with fail
            refine (IC.out x _ hnx).mono ?_
            rw [Q.out]
            rintro e w' ⟨rfl, rfl⟩
            go_wp2_with (at_builtin; refine wpList_push rfl _ _ 41 rfl w.heap.size 28 (.int .u32 0) 4 undSets infoSet rfl (by decide) enc (fun _ => rfl) _ xs rfl (hown.alloc _) ⟨wr.heap.size, 0, none⟩ x rfl cell_new (by omega) (by simp; omega) ?_)
            intro v' w4 hown' hgrow
            have hb4 := below_push hnx hsz hown hgrow
            clear hgrow hown hnx
            go_wp2_with fail
            go_roundw
            case rel => exact ⟨x + 1#32, xs ++ [x], rfl, by simpa using hown', by omega, by rw [List.length_append, List.length_singleton]; omega, M2, hb4⟩
            case measure => simp [intOf, iv]; omega
          | false =>
            have M2 := hid (show ∀ y, y ∈ xs ↔ closedF fs y ∧ y.toNat < (x + 1#32).toNat by
              intro y
              rw [M.out y, hx1]
              constructor
              · rintro ⟨h1, h2⟩; exact ⟨h1, by omega⟩
              · rintro ⟨h1, h2⟩
                refine ⟨h1, ?_⟩
                by_cases h : y.toNat < x.toNat
                · exact h
                · have : y = x := BitVec.eq_of_toNat_eq (by omega)
                  subst this
                  exact absurd h1 (of_decide_eq_false hq))
            have Q := hid ((CN.out x).symm.trans hq)
            clear hq M
            go_wp2_with fail
            refine (FU.out _).mono ?_
            rintro e w' ⟨rfl, rfl⟩
            go_wp2_with fail
            refine (IC.out x _ hnx).mono ?_
            rw [Q.out]
            rintro e w' ⟨rfl, rfl⟩
            go_wp2_with fail
            go_roundw
            case rel => exact ⟨x + 1#32, xs, rfl, hown, by omega, by omega, M2, hnx⟩
            case measure => simp [intOf, iv]; omega
        · have hle : ¬ iv x ≤ iv G := by unfold iv; omega
          have RD := hid (RdE.of_owns hown (by omega))
          have MM := hid (show ∀ s, s ∈ xs ↔ sub s (fullN (m : Int).toNat) ∧ closedF fs s by
            intro s
            rw [M.out s, show (m : Int).toNat = m by omega, HG.out, ← LF.out s]
            exact ⟨fun h => ⟨by omega, h.1⟩, fun h => ⟨h.2, by omega⟩⟩)
          clear hown M
          go_wp2_with fail
          refine (FU.out _).mono ?_
          rintro e w' ⟨rfl, rfl⟩
          go_wp2_with fail
          refine (O.out xs _ _ RD.out (by omega)).mono ?_
          rintro e w2 ⟨v', ys, rfl, hown2, ho, hle2, hb2⟩
          have BB := hid (hnx.trans (hb2.mono hnx.size))
          have HO := hid ho
          have OW := hid (own_mono hown2 hsz)
          clear hb2 ho hown2 hnx
          go_wp2_with fail
          go_ret2
          exact ⟨_, ys, rfl, OW.out, ⟨fun h => absurd CZ.out h, fun _ => HO.out.congr MM.out⟩, by omega, BB.out⟩

end Go.Proofs.Ytmlbmdcmedglaaa
