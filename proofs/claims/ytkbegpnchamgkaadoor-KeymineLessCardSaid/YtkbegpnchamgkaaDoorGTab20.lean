/- Texts that belong together, in one file. -/
import Derived.Test.YtkbegpnchamgkaaDoorGTab14
import Derived.Test.YtkbegpnchamgkaaDoorGTabB
import Derived.StillTailTactics
import Derived.Laws.StructEq
import Derived.IntWalk
/- The walks of Witness, of agree and of the reference. -/
namespace Go.Proofs.YtkbegpnchamgkaaDoor
open Go.RowKit

/-- The first pair that agrees exactly on a set. -/
def witIn (r : Row3) (s : S) : List Row3 → Option (Int × Int) → Option (Int × Int)
  | [], d => d
  | q :: qs, d => if pairS r q == s then some (r.1, q.1) else witIn r s qs d
def fpS : List Row3 → S → Option (Int × Int)
  | [], _ => none
  | r :: rs, s => witIn r s rs (fpS rs s)
theorem fpS_at {rs : List Row3} {i : Nat} {r : Row3} (h : rs[i]? = some r) (s : S) : fpS (rs.drop i) s = witIn r s (rs.drop (i + 1)) (fpS (rs.drop (i + 1)) s) := by rw [drop_at h]; rfl
theorem witIn_at {rs : List Row3} {k : Nat} {q : Row3} (h : rs[k]? = some q) (r : Row3) (s : S) (d : Option (Int × Int)) : witIn r s (rs.drop k) d = if pairS r q == s then some (r.1, q.1) else witIn r s (rs.drop (k + 1)) d := by rw [drop_at h]; rfl
def witV : Option (Int × Int) → Value
  | none => .tuple #[.int .i64 0, .int .i64 0, .bool false]
  | some x => .tuple #[.int .i64 x.1, .int .i64 x.2, .bool true]



theorem set3 {W : World} {b : Nat} {x y z x' y' z' : Value} (h0 : W.cell? ⟨b, 0, none⟩ = some x') (h1 : W.cell? ⟨b, 1, none⟩ = some y') (h2 : W.cell? ⟨b, 2, none⟩ = some z') {W3 : World} (hW : ((W.setCell ⟨b, 0, none⟩ x).setCell ⟨b, 1, none⟩ y).setCell ⟨b, 2, none⟩ z = W3) :
    W3.cell? ⟨b, 0, none⟩ = some x ∧ W3.cell? ⟨b, 1, none⟩ = some y ∧ W3.cell? ⟨b, 2, none⟩ = some z := by
  subst hW
  refine ⟨?_, ?_, ?_⟩
  · rw [World.cell?_setCell_other _ _ _ _ (by simp), World.cell?_setCell_other _ _ _ _ (by simp)]; exact World.cell?_setCell_same _ _ _ h0
  · rw [World.cell?_setCell_other _ _ _ _ (by simp)]; exact World.cell?_setCell_same _ _ _ ((World.cell?_setCell_other _ _ _ _ (by simp)).trans h1)
  · exact World.cell?_setCell_same _ _ _ ((World.cell?_setCell_other _ _ _ _ (by simp)).trans ((World.cell?_setCell_other _ _ _ _ (by simp)).trans h2))

/-- The reference's pair. -/
def witP : Option (Int × Int) → Value
  | none => .agg #[.int .i64 0, .int .i64 0, .bool false]
  | some x => .agg #[.int .i64 x.1, .int .i64 x.2, .bool true]
def witE (t : T3) (s : S) : Option (Int × Int) := if tabE2 t = 0 then fpS t.2.2 s else none


end Go.Proofs.YtkbegpnchamgkaaDoor


/- The walks of Find and Of, of the program and of the reference. -/
namespace Go.Proofs.YtkbegpnchamgkaaDoor
open Go.RowKit

/-- The index of the first row with a number. -/
def fndFrom (k : Nat) : List Row3 → Int → Option Nat
  | [], _ => none
  | r :: rs, id => if r.1 == id then some k else fndFrom (k + 1) rs id
def fnd (rs : List Row3) (id : Int) : Option Nat := fndFrom 0 rs id
theorem fnd_at {rs : List Row3} {k : Nat} {r : Row3} (h : rs[k]? = some r) (id : Int) : fndFrom k (rs.drop k) id = if r.1 == id then some k else fndFrom (k + 1) (rs.drop (k + 1)) id := by rw [drop_at h]; rfl
theorem fndFrom_get : ∀ (rs : List Row3) (n : Nat) (id : Int) (k : Nat), fndFrom n rs id = some k → ∃ j r, k = n + j ∧ rs[j]? = some r ∧ r.1 = id := by
  intro rs
  induction rs with
  | nil => intro n id k h; cases h
  | cons r rs ih =>
    intro n id k h
    unfold fndFrom at h
    split at h
    · rename_i h1
      cases h
      exact ⟨0, r, rfl, rfl, by simpa using h1⟩
    · obtain ⟨j, q, rfl, hq, he⟩ := ih _ _ _ h
      exact ⟨j + 1, q, by omega, hq, he⟩
theorem fnd_get {rs : List Row3} {id : Int} {k : Nat} (h : fnd rs id = some k) : ∃ r, rs[k]? = some r ∧ r.1 = id := by
  obtain ⟨j, r, rfl, h1, h2⟩ := fndFrom_get rs 0 id k h
  exact ⟨r, by rwa [Nat.zero_add], h2⟩
def fndV : Option Nat → Value
  | none => .tuple #[.int .i64 0, .bool false]
  | some k => .tuple #[.int .i64 (k : Int), .bool true]
def fndI : Option Nat → Int
  | none => -1
  | some k => (k : Int)

theorem find1_any (i id : Int) (u : Value) (bi : Nat) (w : World) (hc : w.cell? ⟨bi, 0, none⟩ = some (.int .i64 id)) :
    Calls Tryd.prog 77 (#[.agg #[.int .i64 i, u]] ++ #[.pointer (some ⟨bi, 0, none⟩)]) w fun e w' => e = .returned (.bool (i == id)) ∧ Below w.heap.size w w' := by
  show Calls Tryd.prog 77 #[.agg #[.int .i64 i, u], .pointer (some ⟨bi, 0, none⟩)] w _
  have hb := below_alloc w (.cells #[.int .i64 i, u] 78)
  have hc' : (w.alloc (.cells #[.int .i64 i, u] 78)).cell? ⟨bi, 0, none⟩ = some (.int .i64 id) := (hb.cell (p := ⟨bi, 0, none⟩) (World.block_lt_of_cell? _ _ hc)).trans hc
  have hc0 : (w.alloc (.cells #[.int .i64 i, u] 78)).cell? ⟨w.heap.size, 0, none⟩ = some (.int .i64 i) := by simp
  have hlt := World.block_lt_of_cell? _ _ hc
  have hne : bi ≠ w.heap.size := fun e => by have : bi < w.heap.size := hlt; omega
  go_enter Tryd.func77, Tryd.ntmps77
  go_wp2
  go_ret
  exact ⟨rfl, hb⟩

set_option maxHeartbeats 800000 in
theorem indexRow_any (id : Int) (rs : List Row3) (v : Value) (bi : Nat) (w : World) (hr : RdR w v rs) (hc : w.cell? ⟨bi, 0, none⟩ = some (.int .i64 id))
    (eg : ∀ (args : Array Value) (w : World), (callFunc 77 args).run Tryd.prog w = .ok (.enter 77 args) w) :
    Calls Tryd.prog 76 #[v, .func (.func 77) #[] #[.pointer (some ⟨bi, 0, none⟩)]] w fun e w' => e = .returned (.int .i64 (fndI (fnd rs id))) ∧ Below w.heap.size w w' := by
  obtain ⟨ro, rcap, rfl, hrl, hrc⟩ := RdR.split hr
  have RC := hid hrc
  have hbi := World.block_lt_of_cell? _ _ hc
  have F1 := hid (fun (i : Int) (u : Value) (W : World) (h : Below w.heap.size w W) => find1_any i id u bi W ((h.cell (p := ⟨bi, 0, none⟩) hbi).trans hc))
  have FA := hid (fun (k : Nat) (r : Row3) (h : rs[k]? = some r) => fnd_at h id)
  obtain ⟨F, hF⟩ : ∃ F, fnd rs id = F := ⟨_, rfl⟩
  rw [hF]
  have FF := hid (show fndFrom 0 (rs.drop 0) id = F from hF)
  clear hr hrc hF hbi hc
  go_enter Tryd.func76, Tryd.ntmps76
  go_wp2_with fail
  go_loopw [8] (fun i wr => ∃ k : Nat, k ≤ rs.length ∧ i = .int .i64 k ∧ Hid (fndFrom k (rs.drop k) id = F) ∧ Below w.heap.size w wr) (fun i _ => rs.length - (intOf i).toNat)
  case atStart => exact ⟨0, Nat.zero_le _, rfl, FF, Below.refl _ _⟩
  case round =>
    obtain ⟨k, hk, rfl, H, hnx⟩ := hrel
    have hsz := hnx.size
    by_cases hlt : k < rs.length
    · obtain ⟨⟨rid, ru, rvs⟩, hr⟩ := get_some hlt
      obtain ⟨⟨b, off, rfl, hd⟩, hvs⟩ := RC.out k _ hr
      obtain ⟨e0, e1⟩ := hd wr hnx
      have H2 := hid ((FA.out k _ hr).symm.trans H.out)
      have C1 := hid (F1.out rid ru wr hnx)
      have NX := hid hnx
      clear hd hvs hr hnx H
      cases hq : (rid == id) with
      | true =>
        rw [hq] at C1
        rw [show ((rid, ru, rvs) : Row3).1 = rid from rfl, hq, if_pos rfl] at H2
        clear hq
        go_wp2_with (go_at_fn 77; refine C1.out.mono ?_; rintro e w2 ⟨rfl, hb2⟩)
        have B2 := hid (NX.out.trans (hb2.mono hsz))
        clear hb2
        go_ret
        exact ⟨by rw [← H2.out]; rfl, B2.out⟩
      | false =>
        rw [hq] at C1
        rw [show ((rid, ru, rvs) : Row3).1 = rid from rfl, hq, if_neg (by simp)] at H2
        clear hq
        go_wp2_with (go_at_fn 77; refine C1.out.mono ?_; rintro e w2 ⟨rfl, hb2⟩)
        have B2 := hid (NX.out.trans (hb2.mono hsz))
        clear hb2
        go_roundw
        case rel => exact ⟨k + 1, by omega, by go_num, H2, B2.out⟩
        case measure => simp [intOf]; omega
    · have H2 := hid (show none = F by have h := H.out; rw [List.drop_eq_nil_of_le (by omega)] at h; exact h)
      have NX := hid hnx
      clear hnx H
      go_wp2_with fail
      go_ret
      exact ⟨by rw [← H2.out]; rfl, NX.out⟩

set_option maxRecDepth 100000 in
theorem find_any (t : T3) (av rv : Value) (id : Int) (w : World) (ht : RdT w av rv t) :
    Calls Tryd.prog 61 #[.agg #[.string t.1, av, rv], .int .i64 id] w fun e w' => e = .returned (fndV (fnd t.2.2 id)) ∧ Below w.heap.size w w' := by
  have hb00 := below_alloc w (.cells #[.string t.1, av, rv] 28)
  have hb01 := below_alloc (w.alloc (.cells #[.string t.1, av, rv] 28)) (.cells #[.int .i64 id] 2)
  have hb0 := hb00.trans (hb01.mono hb00.size)
  obtain ⟨c0, c1, c2⟩ := cells3 (w := w) (a := .string t.1) (b := av) (c := rv) (t := 28) _ hb01
  have hid0 : ((w.alloc (.cells #[.string t.1, av, rv] 28)).alloc (.cells #[.int .i64 id] 2)).cell? ⟨w.heap.size + 1, 0, none⟩ = some (.int .i64 id) := by
    have : w.heap.size + 1 = (w.alloc (.cells #[.string t.1, av, rv] 28)).heap.size := by simp
    rw [this]; exact cell_new
  have T0 := hid (ht.below hb0)
  obtain ⟨w0, hw0⟩ : ∃ w0 : World, (w.alloc (.cells #[.string t.1, av, rv] 28)).alloc (.cells #[.int .i64 id] 2) = w0 := ⟨_, rfl⟩
  rw [hw0] at hb0 c0 c1 c2 T0 hid0
  have B0 := hid hb0
  have W0 := hid hw0
  have hsz0 := hb0.size
  have IX := hid (indexRow_any id t.2.2 rv (w.heap.size + 1) w0 T0.out.2 hid0 (enters _ _ _ Tryd.func77 (by kernel_rfl) rfl))
  obtain ⟨nm, ats, rs⟩ := t
  clear hb0 hw0 hb00 hb01
  obtain ⟨ro, rcap, rfl, -⟩ := RdR.split T0.out.2
  show Calls _ _ _ _ fun e w' => e = .returned (fndV (fnd rs id)) ∧ Below w.heap.size w w'
  replace IX := hid (show Calls _ _ _ _ fun e w' => e = .returned (.int .i64 (fndI (fnd rs id))) ∧ Below w0.heap.size w0 w' from IX.out)
  cases hF : fnd rs id with
  | none =>
    rw [hF] at IX
    replace IX := hid (show Calls _ _ _ _ fun e w' => e = .returned (.int .i64 (-1)) ∧ Below w0.heap.size w0 w' from IX.out)
    clear hF
    go_enter Tryd.func61, Tryd.ntmps61
    go_wp2_with fail
    rw [W0.out]
    go_wp2_with fail
    refine IX.out.mono ?_
    rintro e w2 ⟨rfl, hb2⟩
    have B2 := hid (B0.out.trans (hb2.mono hsz0))
    clear hb2
    go_wp2_with fail
    go_ret2
    exact ⟨rfl, B2.out⟩
  | some k =>
    rw [hF] at IX
    replace IX := hid (show Calls _ _ _ _ fun e w' => e = .returned (.int .i64 (k : Int)) ∧ Below w0.heap.size w0 w' from IX.out)
    have k0 : (0 : Int) ≤ (k : Int) := by omega
    have hkd : decide ((k : Int) ≥ 0) = true := by simp
    clear hF
    go_enter Tryd.func61, Tryd.ntmps61
    go_wp2_with fail
    rw [W0.out]
    go_wp2_with fail
    refine IX.out.mono ?_
    rintro e w2 ⟨rfl, hb2⟩
    have B2 := hid (B0.out.trans (hb2.mono hsz0))
    clear hb2
    go_wp2_with fail
    go_ret2
    exact ⟨by first | rfl | (simp [fndV]; omega), B2.out⟩


def ofS (t : T3) (a b : Int) : S × Int :=
  if tabE2 t ≠ 0 then (0#32, tabE2 t) else match fnd t.2.2 a, fnd t.2.2 b with
    | some i, some k => ((match t.2.2[i]?, t.2.2[k]? with | some r, some q => pairS r q | _, _ => 0#32), 0)
    | _, _ => (0#32, 4)
theorem ofS_err {t : T3} {a b : Int} (h : tabE2 t ≠ 0) : ofS t a b = (0#32, tabE2 t) := by unfold ofS; rw [if_pos h]
theorem ofS_none {t : T3} {a b : Int} (h : tabE2 t = 0) (k : fnd t.2.2 a = none ∨ fnd t.2.2 b = none) : ofS t a b = (0#32, 4) := by
  unfold ofS
  rw [if_neg (by simpa using h)]
  rcases k with k | k
  · rw [k]
  · rw [k]; cases fnd t.2.2 a <;> rfl
theorem ofS_some {t : T3} {a b : Int} {i k : Nat} {r q : Row3} (h : tabE2 t = 0) (hi : fnd t.2.2 a = some i) (hk : fnd t.2.2 b = some k) (hr : t.2.2[i]? = some r) (hq : t.2.2[k]? = some q) : ofS t a b = (pairS r q, 0) := by
  unfold ofS
  rw [if_neg (by simpa using h), hi, hk]
  simp only [hr, hq]



end Go.Proofs.YtkbegpnchamgkaaDoor


/- Chapter 27's contracts in the words of the laws; the comparisons of lists of counts and of pairs; few. -/
namespace Go.Proofs.YtkbegpnchamgkaaDoor
open Go.RowKit Go.Shelf Go.Lib

def setsL (t : T3) : List C2 := if tabE2 t = 0 then cntL (pairsS t.2.2) else []
theorem cntL_length (G : List S) : (cntL G).length ≤ G.length := by unfold cntL; rw [List.length_map]; exact ordS_length G
theorem pairs_bound {t : T3} (h : tabE2 t = 0) : (pairsS t.2.2).length ≤ 40000 := Nat.le_trans (pairsS_length _) (Nat.mul_le_mul (tabE2_ok h).2.1 (tabE2_ok h).2.1)
theorem setsL_length (t : T3) : (setsL t).length ≤ 40000 := by
  unfold setsL
  split
  · rename_i h; exact Nat.le_trans (cntL_length _) (pairs_bound h)
  · simp
def maxL (t : T3) (a : Int) : List S := if arityE t a = 0 then keepS upR (withoutS (pairsS t.2.2) a.toNat) else []
def difL (t : T3) (a : Int) : List S := if arityE t a = 0 then keepS downR (diffL t.2.1.length a.toNat (pairsS t.2.2)) else []
theorem maxL_length (t : T3) (a : Int) : (maxL t a).length ≤ 40000 := by
  unfold maxL
  split
  · rename_i h; exact Nat.le_trans (keepS_length _ _) (Nat.le_trans (withoutS_length _ _) (pairs_bound (arityE_ok h).1))
  · simp
theorem difL_length (t : T3) (a : Int) : (difL t a).length ≤ 40000 := by
  unfold difL
  split
  · rename_i h
    refine Nat.le_trans (keepS_length _ _) ?_
    unfold diffL
    rw [List.length_map]
    exact Nat.le_trans (withoutS_length _ _) (pairs_bound (arityE_ok h).1)
  · simp


theorem RdCt.split {w : World} {v : Value} {xs : List C2} (h : RdCt w v xs) : ∃ ao cap, v = .slice ao xs.length cap ∧ xs.length ≤ 35184372088832 ∧
    ∀ (k : Nat) (x : C2), xs[k]? = some x → ∃ b off, ao = some ⟨b, off, none⟩ ∧ ∀ wr, Below w.heap.size w wr → wr.cell? ⟨b, off + k * 2, none⟩ = some (.int .u32 (iv x.1)) ∧ wr.cell? ⟨b, off + k * 2 + 1, none⟩ = some (.int .i64 x.2) := by
  obtain ⟨ao, cap, rfl, -, h2, h3⟩ := h
  refine ⟨ao, cap, rfl, h2, fun k f hf => ?_⟩
  obtain ⟨b, off, rfl, hb, hc⟩ := h3 (by have := (List.getElem?_eq_some_iff.1 hf).1; omega)
  exact ⟨b, off, rfl, fun wr hn => ⟨(hn.cell (p := ⟨b, off + k * 2, none⟩) hb).trans (hc _ _ (flat_at cC_length xs k f 0 _ hf rfl)), (hn.cell (p := ⟨b, off + k * 2 + 1, none⟩) hb).trans (hc _ _ (flat_at cC_length xs k f 1 _ hf rfl))⟩⟩

def fewB (t : T3) : Bool := decide (t.2.2.length ≤ 12) && decide (t.2.1.length ≤ 20)

end Go.Proofs.YtkbegpnchamgkaaDoor


/- The example of chapter 27: the walk of its law package's awake. -/
namespace Go.Proofs.YtkbegpnchamgkaaDoor
open Go.RowKit

def exV (n : Int) : V3 := (1, n, ByteArray.mk #[])
def exT (s1 s2 s3 : Value) : T3 := (ByteArray.mk #[114], [ByteArray.mk #[97], ByteArray.mk #[98], ByteArray.mk #[99]], [(1, s1, [exV 5, exV 1, exV 0]), (2, s2, [exV 5, exV 2, exV 0]), (4, s3, [exV 7, exV 1, exV 0])])
theorem exV_ok (n : Int) : badV (exV n) = false := by
  unfold badV validV exV
  rw [ByteArray.toList_eq]
  rfl
theorem ex_name : nameB (ByteArray.mk #[114]) = true ∧ nameB (ByteArray.mk #[97]) = true ∧ nameB (ByteArray.mk #[98]) = true ∧ nameB (ByteArray.mk #[99]) = true := by
  unfold nameB
  simp only [ByteArray.toList_eq]
  decide +kernel
theorem ex_attrs (s1 s2 s3 : Value) : attrsBad (exT s1 s2 s3).2.1 = false := by
  obtain ⟨h1, h2, h3, h4⟩ := ex_name
  show attrsBad [ByteArray.mk #[97], ByteArray.mk #[98], ByteArray.mk #[99]] = false
  unfold attrsBad attrBad
  simp [List.range, List.range.loop, h2, h3, h4, eqT, ByteArray.toList_eq]
theorem ex_tab (s1 s2 s3 : Value) : tabE2 (exT s1 s2 s3) = 0 := by
  have h1 : nameB (exT s1 s2 s3).1 = true := ex_name.1
  have h2 := ex_attrs s1 s2 s3
  have h3 : rowsE 0 (exT s1 s2 s3).2.1.length (exT s1 s2 s3).2.2 = 0 := by
    show rowsE 0 3 [(1, s1, [exV 5, exV 1, exV 0]), (2, s2, [exV 5, exV 2, exV 0]), (4, s3, [exV 7, exV 1, exV 0])] = 0
    simp [rowsE, exV_ok]
  have h4 : tabE (exT s1 s2 s3) = 0 := by
    unfold tabE
    rw [h1, h2, h3]
    rfl
  unfold tabE2
  rw [h4]
  rfl
theorem ex_eqV (m n : Int) : eqV (exV m) (exV n) = decide (m = n) := by
  unfold eqV exV eqT; simp
theorem ord_lit {a b : List S} (h1 : b.Pairwise (fun x y => cmpS x y < 0)) (h2 : b.Perm a) : ordS a = b := (ordS_of (p := (· ∈ b)) ⟨h1, fun _ => Iff.rfl⟩ fun _ => h2.mem_iff).symm
theorem ex_pairs (s1 s2 s3 : Value) : pairsS (exT s1 s2 s3).2.2 = [5#32, 6#32, 4#32] := by
  show [rowsS [exV 5, exV 1, exV 0] [exV 5, exV 2, exV 0] 3, rowsS [exV 5, exV 1, exV 0] [exV 7, exV 1, exV 0] 3, rowsS [exV 5, exV 2, exV 0] [exV 7, exV 1, exV 0] 3] = _
  simp [rowsS, ex_eqV]
theorem ex_sets (s1 s2 s3 : Value) : setsL (exT s1 s2 s3) = [(4#32, 1), (5#32, 1), (6#32, 1)] := by
  unfold setsL
  rw [if_pos (ex_tab _ _ _), ex_pairs]
  unfold cntL
  rw [ord_lit (b := [4#32, 5#32, 6#32]) (by decide +kernel) (by decide)]
  decide +kernel
theorem ex_arity (s1 s2 s3 : Value) : arityE (exT s1 s2 s3) 0 = 0 := by
  unfold arityE
  rw [if_neg (by rw [ex_tab]; simp)]
  rfl
theorem ex_max (s1 s2 s3 : Value) : maxL (exT s1 s2 s3) 0 = [6#32] := by
  unfold maxL
  rw [if_pos (ex_arity _ _ _), ex_pairs, show withoutS [5#32, 6#32, 4#32] (Int.toNat 0) = [6#32, 4#32] by decide]
  unfold keepS
  rw [ord_lit (b := [4#32, 6#32]) (by decide +kernel) (by decide)]
  decide +kernel
theorem ex_dif (s1 s2 s3 : Value) : difL (exT s1 s2 s3) 0 = [0#32] := by
  unfold difL
  rw [if_pos (ex_arity _ _ _), ex_pairs, show (exT s1 s2 s3).2.1.length = 3 from rfl, show diffL 3 (Int.toNat 0) [5#32, 6#32, 4#32] = [0#32, 2#32] by decide +kernel]
  unfold keepS
  rw [ord_lit (b := [0#32, 2#32]) (by decide +kernel) (by decide)]
  decide +kernel
theorem ex_wit (s1 s2 s3 : Value) : witE (exT s1 s2 s3) 6#32 = some (1, 4) := by
  unfold witE
  rw [if_pos (ex_tab _ _ _)]
  have h1 : rowsS [exV 5, exV 1, exV 0] [exV 5, exV 2, exV 0] 3 = 5#32 := by simp [rowsS, ex_eqV]
  have h2 : rowsS [exV 5, exV 1, exV 0] [exV 7, exV 1, exV 0] 3 = 6#32 := by simp [rowsS, ex_eqV]
  show witIn (1, s1, [exV 5, exV 1, exV 0]) 6#32 [(2, s2, [exV 5, exV 2, exV 0]), (4, s3, [exV 7, exV 1, exV 0])] _ = _
  simp only [witIn, pairS]
  show (if rowsS [exV 5, exV 1, exV 0] [exV 5, exV 2, exV 0] 3 == 6#32 then _ else if rowsS [exV 5, exV 1, exV 0] [exV 7, exV 1, exV 0] 3 == 6#32 then _ else _) = _
  rw [h1, h2]
  rfl



end Go.Proofs.YtkbegpnchamgkaaDoor


/- The laws of chapter 27 over tables: AgreeSets, AgreeMaximal, AgreeWitness, AgreeOf. -/
namespace Go.Proofs.YtkbegpnchamgkaaDoor
open Go.RowKit

theorem wrap64_small {x : Int} (h0 : 0 ≤ x) (h1 : x ≤ 100000) : wrap64 x = x := by unfold wrap64; omega

/-- The sum of the counts of a list. -/
def sumL (l : List C2) : Int := (l.map (·.2)).sum
theorem sumL_next {l : List C2} {k : Nat} {x : C2} (h : l[k]? = some x) : sumL (l.take (k + 1)) = sumL (l.take k) + x.2 := by
  unfold sumL
  rw [take_next h, List.map_append, List.sum_append]; simp
theorem sumL_cnt (ps : List S) : ∀ ys : List S, sumL (ys.map fun s => (s, (ps.count s : Int))) = ((ys.map fun s => ps.count s).sum : Nat) := by
  intro ys
  induction ys with
  | nil => rfl
  | cons y ys ih =>
    unfold sumL at ih ⊢
    simp only [List.map_cons, List.sum_cons, ih]
    omega
theorem sumL_cntL (ps : List S) : sumL (cntL ps) = ps.length := by
  unfold cntL
  rw [sumL_cnt, cntL_sum]
theorem sumN_take (l : List Nat) (k : Nat) : (l.take k).sum ≤ l.sum := by
  have h := congrArg List.sum (List.take_append_drop k l)
  rw [List.sum_append] at h
  omega
theorem sumL_bound (ps : List S) (k : Nat) : 0 ≤ sumL ((cntL ps).take k) ∧ sumL ((cntL ps).take k) ≤ ps.length := by
  have e : (cntL ps).take k = ((ordS ps).take k).map fun s => (s, (ps.count s : Int)) := by unfold cntL; rw [List.map_take]
  rw [e, sumL_cnt]
  have h1 := sumN_take ((ordS ps).map fun s => ps.count s) k
  rw [← List.map_take, cntL_sum] at h1
  omega
theorem setsL_sum (t : T3) (k : Nat) : 0 ≤ sumL ((setsL t).take k) ∧ sumL ((setsL t).take k) ≤ 40000 := by
  unfold setsL
  split
  · rename_i h
    have h1 := sumL_bound (pairsS t.2.2) k
    have h2 := pairs_bound h
    omega
  · simp [sumL]
theorem setsL_total {t : T3} (h : tabE2 t = 0) : 2 * sumL (setsL t) = (t.2.2.length : Int) * ((t.2.2.length : Int) - 1) := by
  unfold setsL
  rw [if_pos h, sumL_cntL]
  have h1 := pairsS_twice t.2.2
  have h2 : (t.2.2.length : Int) * (t.2.2.length : Int) = ((t.2.2.length * t.2.2.length : Nat) : Int) := by rw [Int.natCast_mul]
  rw [Int.mul_sub, Int.mul_one, h2]
  omega





end Go.Proofs.YtkbegpnchamgkaaDoor


/- Lists of counted sets: Holds and Closure, of agree and of the reference; slices.Clone. -/
namespace Go.Proofs.YtkbegpnchamgkaaDoor
open Go.RowKit

def holdsB (l : List C2) (f : F) : Bool := !l.any fun c => (c.1 &&& f.1 == f.1) && (c.1 &&& f.2 != f.2)
def closC (full s : S) (l : List C2) : S := l.foldl (fun out c => if c.1 &&& s == s then out &&& c.1 else out) full
theorem closC_next {full s : S} {l : List C2} {k : Nat} {x : C2} (h : l[k]? = some x) : closC full s (l.take (k + 1)) = if x.1 &&& s == s then closC full s (l.take k) &&& x.1 else closC full s (l.take k) := by
  unfold closC; rw [take_next h, List.foldl_append]; rfl
theorem sub_eq (c a : S) : (a &&& ~~~ c == 0#32) = (c &&& a == a) := by
  rw [Bool.eq_iff_iff, beq_iff_eq, beq_iff_eq, andNot_zero_iff, BitVec.and_comm, and_self_iff]
theorem sub_ne (c a : S) : (a &&& ~~~ c != 0#32) = (c &&& a != a) := by unfold bne; rw [sub_eq]






end Go.Proofs.YtkbegpnchamgkaaDoor

