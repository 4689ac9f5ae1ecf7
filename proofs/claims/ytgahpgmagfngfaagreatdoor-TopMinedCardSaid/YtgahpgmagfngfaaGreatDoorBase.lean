/- The words that all texts of this seat share: a 32-bit set as a value, lists of sets as cells of a slice, what the walk makes of the bit operations. No program. -/
import Derived.WalkKit
import Derived.WalkSpells
import Derived.WalkLawsBesides
namespace Go.Proofs.YtgahpgmagfngfaaGreatDoor
open Go.RowKit

theorem hid {p : Prop} (h : p) : Hid p := h

/-- A set of attributes, and the integer that the model holds for it. -/
abbrev S := BitVec 32
def iv (s : S) : Int := (s.toNat : Int)
def enc (s : S) : Value := .int .u32 (iv s)

theorem enc_eq (s : S) : enc s = .int .u32 (iv s) := rfl
theorem iv_nonneg (s : S) : 0 ≤ iv s := by unfold iv; omega
theorem iv_lt (s : S) : iv s < 4294967296 := by unfold iv; have := s.isLt; omega
theorem iv_inj {a b : S} (h : iv a = iv b) : a = b := by
  unfold iv at h
  exact BitVec.eq_of_toNat_eq (by omega)
theorem ofInt_iv (s : S) : BitVec.ofInt 32 (iv s) = s := by
  unfold iv; apply BitVec.eq_of_toNat_eq; simp
theorem iv_ofInt (n : Int) (h0 : 0 ≤ n) (h1 : n < 4294967296) : iv (BitVec.ofInt 32 n) = n := by
  unfold iv; simp [BitVec.toNat_ofInt]; omega
theorem wrap_toNat (s : S) : IntKind.u32.wrap (s.toNat : Int) = iv s := by
  rw [IntKind.wrap_u32]; unfold iv; have := s.isLt; omega
@[go_sem] theorem u32_and (x y : Int) : bits .and .u32 x y = iv (BitVec.ofInt 32 x &&& BitVec.ofInt 32 y) := by
  show IntKind.u32.wrap ((BitVec.ofInt 32 x &&& BitVec.ofInt 32 y).toNat : Int) = _
  rw [wrap_toNat]
@[go_sem] theorem u32_or (x y : Int) : bits .or .u32 x y = iv (BitVec.ofInt 32 x ||| BitVec.ofInt 32 y) := by
  show IntKind.u32.wrap ((BitVec.ofInt 32 x ||| BitVec.ofInt 32 y).toNat : Int) = _
  rw [wrap_toNat]
@[go_sem] theorem u32_andNot (x y : Int) : bits .andNot .u32 x y = iv (BitVec.ofInt 32 x &&& ~~~ BitVec.ofInt 32 y) := by
  show IntKind.u32.wrap ((BitVec.ofInt 32 x &&& ~~~ BitVec.ofInt 32 y).toNat : Int) = _
  rw [wrap_toNat]
attribute [go_sem] ofInt_iv
@[go_sem] theorem iv_beq (a b : S) : (iv a == iv b) = (a == b) := by
  rw [Bool.eq_iff_iff]; simp; exact ⟨fun h => iv_inj h, fun h => by rw [h]⟩
@[go_sem] theorem iv_bne (a b : S) : (iv a != iv b) = (a != b) := by
  unfold bne; rw [iv_beq]
theorem iv_zero : iv 0#32 = 0 := by decide
@[go_sem] theorem iv_beq_zero (a : S) : (iv a == (0 : Int)) = (a == 0#32) := by rw [← iv_zero, iv_beq]
@[go_sem] theorem iv_bne_zero (a : S) : (iv a != (0 : Int)) = (a != 0#32) := by rw [← iv_zero, iv_bne]
@[go_sem] theorem iv_sub_one (a : S) : IntKind.u32.wrap (iv a - 1) = iv (a - 1#32) := by
  rw [IntKind.wrap_u32]; unfold iv; have := a.isLt
  rw [BitVec.toNat_sub]; simp; omega
@[go_sem] theorem iv_add_one (a : S) : IntKind.u32.wrap (iv a + 1) = iv (a + 1#32) := by
  rw [IntKind.wrap_u32]; unfold iv; have := a.isLt
  rw [BitVec.toNat_add]; simp
@[go_sem] theorem iv_neg (a : S) : IntKind.u32.wrap (- iv a) = iv (- a) := by
  rw [IntKind.wrap_u32]; unfold iv; have := a.isLt
  rw [BitVec.toNat_neg]; omega
@[go_sem] theorem iv_neg' (a : S) : IntKind.u32.wrap (0 - iv a) = iv (- a) := by
  rw [Int.zero_sub, iv_neg]
@[go_sem] theorem iv_wrap (a : S) : IntKind.u32.wrap (iv a) = iv a := by
  rw [IntKind.wrap_u32]; have := iv_nonneg a; have := iv_lt a; omega
theorem iv_shr (a : S) (k : Nat) : iv a / (2 : Int) ^ k = iv (a >>> k) := by
  unfold iv; rw [BitVec.toNat_ushiftRight, Nat.shiftRight_eq_div_pow]; simp
theorem iv_shl (a : S) (k : Nat) : IntKind.u32.wrap (iv a * (2 : Int) ^ k) = iv (a <<< k) := by
  rw [IntKind.wrap_u32]; unfold iv; rw [BitVec.toNat_shiftLeft, Nat.shiftLeft_eq]; simp
theorem iv_one_shl (k : Nat) : IntKind.u32.wrap ((2 : Int) ^ k) = iv (1#32 <<< k) := by
  rw [← iv_shl]; simp [iv]
attribute [go_sem] iv_shr iv_shl iv_one_shl

/-- The slice value v reads, in the world w, as the list xs; each element is one cell. -/
def RdE {α : Type} (enc : α → Value) (w : World) (v : Value) (xs : List α) : Prop :=
  ∃ ao cap, v = .slice ao xs.length cap ∧ xs.length ≤ cap ∧ xs.length ≤ 35184372088832 ∧
    (0 < xs.length → ∃ b off, ao = some ⟨b, off, none⟩ ∧ b < w.heap.size ∧ ∀ (i : Nat) (x : α), xs[i]? = some x → w.cell? ⟨b, off + i, none⟩ = some (enc x))

theorem RdE.below {α : Type} {f : α → Value} {w w' : World} {v : Value} {xs : List α} (h : RdE f w v xs) (hb : Below w.heap.size w w') : RdE f w' v xs := by
  obtain ⟨ao, cap, rfl, h1, h2, h3⟩ := h
  refine ⟨ao, cap, rfl, h1, h2, fun hp => ?_⟩
  obtain ⟨b, off, rfl, hlt, hc⟩ := h3 hp
  exact ⟨b, off, rfl, Nat.lt_of_lt_of_le hlt hb.size, fun i x hi => (hb.cell (p := ⟨b, off + i, none⟩) hlt).trans (hc i x hi)⟩

/-- What a call owns reads. -/
theorem RdE.of_owns {α : Type} {f : α → Value} {w : World} {base : Nat} {e : TypeId} {v : Value} {xs : List α} (h : w.ownsRow base e 1 v xs.length (xs.map f)) (hl : xs.length ≤ 35184372088832) : RdE f w v xs := by
  rcases h.2 with ⟨rfl, hn⟩ | ⟨g, cap, cur, rfl, hb, hg, hnc, hcm, hcs, htake⟩
  · have hx : xs = [] := List.eq_nil_of_length_eq_zero hn
    subst hx
    exact ⟨none, 0, rfl, Nat.le_refl _, hl, fun hp => absurd hp (by simp)⟩
  · refine ⟨_, cap, rfl, hnc, hl, fun _ => ⟨g, 0, rfl, (Array.getElem?_eq_some_iff.1 hg).1, fun i x hi => ?_⟩⟩
    have hlt : i < xs.length := (List.getElem?_eq_some_iff.1 hi).1
    have := h.cellAt i (by omega)
    rw [Nat.zero_add, this]
    simp [hi]

theorem below_drewN' {B : Nat} {a w : World} (h : Below B a w) (q : Nat) : Below B a (w.drewN q) := ⟨h.os, h.tape, h.output, h.size, h.block⟩
theorem below_drewN (B : Nat) (w : World) (n : Nat) : Below B w (w.drewN n) := ⟨rfl, rfl, rfl, Nat.le_refl _, fun _ _ => rfl⟩

/-- 'append(out, y)' of one element, out the call's own. -/
theorem wpList_push {P : Program} {w : World} {ops : Array Oper} {rest : List Oper} {o : Oper} {a : Act} {Q : Exit → Act → World → Prop} {α : Type} (hgd : o.guard = none) (s x : Operand) (t : TypeId)
    (ho : o.op = .call { callee := .builtin .append, args := #[s, x], argTypes := #[t, t] })
    (B : Nat) (e : TypeId) (z : Value) (bytes : Nat) (ht : P.underlying t = some (.slice e)) (hinfo : (P.info? e).map (fun i => (i.zero, i.size, i.bytes)) = some (some z, 1, bytes)) (hz : z.cells.size = 1) (hb8 : bytes ≤ 8)
    (f : α → Value) (hf : ∀ y, (f y).oneCell' = true) (v : Value) (xs : List α) (hs : a.eval s = v) (hown : w.ownsRow B e 1 v xs.length (xs.map f))
    (ad : Addr) (y : α) (hx : a.eval x = .slice (some ad) 1 1) (hy : w.cell? ad = some (f y)) (hl : xs.length < 17592186044416) (hB : B ≤ w.heap.size)
    (h : ∀ v' w', w'.ownsRow B e 1 v' (xs ++ [y]).length ((xs ++ [y]).map f) → w.grownBy w' v.ownBlock → wpList P ops Q rest (a.put o.dst v') w') : wpList P ops Q (o :: rest) a w := by
  obtain ⟨i, hi, hz0, hz1, hz2⟩ := info_parts hinfo
  refine wpList_append_own w hgd s x t ho B e i z 1 bytes ht hi hz0 hz1 hz2 hz (by decide) v xs.length (xs.map f) hs hown ad 1 1 [f y] hx rfl ?_ ?_ ?_ ?_ hB ?_
  · intro j u hj
    match j, hj with
    | 0, hj => simp at hj; subst hj; rw [Addr.add_zero']; exact hy
  · intro u hu
    simp at hu; subst hu; exact hf y
  · unfold maxLen; omega
  · refine Nat.le_trans (Nat.mul_le_mul_left _ hb8) ?_; omega
  · intro v' w' h1 h2 _
    refine h v' w' ?_ h2
    simpa using h1

theorem below_push {B : Nat} {w wr w1 : World} {o : Obj} {e : TypeId} {size n : Nat} {v : Value} {xs : List Value} (hnx : Below B w wr) (hB : B ≤ wr.heap.size) (hown : wr.ownsRow B e size v n xs) (hg : (wr.alloc o).grownBy w1 v.ownBlock) : Below B w w1 :=
  (hnx.alloc hB o).grown hg (by simp; omega) (fun j hj => (hown.lt j hj).1)

theorem own_mono {w : World} {B B' : Nat} {e : TypeId} {size n : Nat} {v : Value} {xs : List Value} (h : w.ownsRow B e size v n xs) (hb : B' ≤ B) : w.ownsRow B' e size v n xs := by
  refine ⟨h.1, ?_⟩
  rcases h.2 with h | ⟨g, cap, cur, hv, hg, rest⟩
  · exact .inl h
  · exact .inr ⟨g, cap, cur, hv, Nat.le_trans hb hg, rest⟩
theorem own_below {w w' : World} {B : Nat} {e : TypeId} {size n : Nat} {v : Value} {xs : List Value} (h : w.ownsRow B e size v n xs) (hb : Below w.heap.size w w') : w'.ownsRow B e size v n xs := by
  refine ⟨h.1, ?_⟩
  rcases h.2 with h | ⟨g, cap, cur, hv, hg, hc, rest⟩
  · exact .inl h
  · exact .inr ⟨g, cap, cur, hv, hg, (hb.block g (Array.getElem?_eq_some_iff.1 hc).1).trans hc, rest⟩
theorem below_alloc (w : World) (o : Obj) : Below w.heap.size w (w.alloc o) := (Below.refl _ w).alloc (Nat.le_refl _) o

/-! Lists, a prefix at a time. -/
theorem snoc_cases {α : Type} (l : List α) : l = [] ∨ ∃ a y, l = a ++ [y] := by
  rcases List.eq_nil_or_concat l with h | ⟨a, y, h⟩
  · exact .inl h
  · exact .inr ⟨a, y, by rw [h, List.concat_eq_append]⟩

theorem take_next {α : Type} {xs : List α} {k : Nat} {x : α} (h : xs[k]? = some x) : xs.take (k + 1) = xs.take k ++ [x] := by
  obtain ⟨hk, rfl⟩ := List.getElem?_eq_some_iff.1 h
  rw [List.take_succ_eq_append_getElem hk]
theorem get_some {α : Type} {xs : List α} {k : Nat} (h : k < xs.length) : ∃ x, xs[k]? = some x := ⟨xs[k], List.getElem?_eq_getElem h⟩
theorem any_hit {α : Type} {xs : List α} {p : α → Bool} {k : Nat} {x : α} (h : xs[k]? = some x) (hp : p x = true) : xs.any p = true :=
  List.any_eq_true.2 ⟨x, List.mem_of_getElem? h, hp⟩
theorem none_next {α : Type} {xs : List α} {p : α → Bool} {k : Nat} {x : α} (h : xs[k]? = some x) (hp : p x = false) (hn : (xs.take k).any p = false) : (xs.take (k + 1)).any p = false := by
  rw [take_next h, List.any_append, hn]; simp [hp]
theorem take_all {α : Type} {xs : List α} {k : Nat} (h : ¬ k < xs.length) : xs.take k = xs := List.take_of_length_le (by omega)
theorem any_end {α : Type} {xs : List α} {p : α → Bool} {k : Nat} (hn : (xs.take k).any p = false) (h : ¬ k < xs.length) : xs.any p = false := by
  rw [take_all h] at hn; exact hn

end Go.Proofs.YtgahpgmagfngfaaGreatDoor
