/- The walk of the reference's Subsets: all subsets of a set, in order. -/
import Derived.Test.YthoidncbbcpnnaaGreatDoorGWalk
import Derived.Test.YthoidncbbcpnnaaGreatDoorGPlain
namespace Go.Proofs.YthoidncbbcpnnaaGreatDoor
open Go.RowKit

/-! The next subset. -/
def nxt (x s : S) : S := BitVec.ofNat 32 ((x.toNat + 2 ^ 64 - s.toNat) &&& s.toNat)
theorem nxt_nat (x s : S) : (nxt x s).toNat = (x.toNat + 2 ^ 64 - s.toNat) &&& s.toNat := by
  unfold nxt
  have h1 : (x.toNat + 2 ^ 64 - s.toNat) &&& s.toNat ≤ s.toNat := Nat.and_le_right
  have := s.isLt
  rw [BitVec.toNat_ofNat]
  exact Nat.mod_eq_of_lt (by omega)
theorem nxt_sub (x s : S) : sub (nxt x s) s := by
  rw [sub_nat, nxt_nat, Nat.and_assoc, Nat.and_self]
theorem nxt_gt {x s : S} (hx : sub x s) (hne : x ≠ s) : x.toNat < (nxt x s).toNat := by
  rw [nxt_nat]
  exact (succ_sub 64 x.toNat s.toNat s.toNat (by have := s.isLt; omega) (sub_nat.1 hx) (Nat.and_self _) (sub_toNat_lt hx hne)).2
theorem nxt_spec {x s y : S} (hx : sub x s) (hy : sub y s) (hne : x ≠ s) : y.toNat < (nxt x s).toNat ↔ y.toNat < x.toNat ∨ y = x := by
  have h1 := nxt_gt hx hne
  constructor
  · intro h
    by_cases e : x.toNat < y.toNat
    · have h2 := (succ_sub 64 x.toNat y.toNat s.toNat (by have := s.isLt; omega) (sub_nat.1 hx) (sub_nat.1 hy) e).1
      rw [nxt_nat] at h; omega
    · by_cases e2 : y.toNat = x.toNat
      · exact .inr (BitVec.eq_of_toNat_eq e2)
      · exact .inl (by omega)
  · rintro (h | rfl) <;> omega
theorem nxt_bits (x s : S) (h : x.toNat < s.toNat) : bits .and .u64 (IntKind.u64.wrap (iv x - iv s)) (iv s) = iv (nxt x s) := by
  have hs := s.isLt
  have e1 : IntKind.u64.wrap (iv x - iv s) = ((x.toNat + 2 ^ 64 - s.toNat : Nat) : Int) := by
    rw [IntKind.wrap_u64]; unfold iv; omega
  have h2 : (x.toNat + 2 ^ 64 - s.toNat) &&& s.toNat ≤ s.toNat := Nat.and_le_right
  have e2 : bits .and .u64 (IntKind.u64.wrap (iv x - iv s)) (iv s) = IntKind.u64.wrap ((BitVec.ofInt 64 (IntKind.u64.wrap (iv x - iv s)) &&& BitVec.ofInt 64 (iv s)).toNat : Int) := rfl
  have e3 : (BitVec.ofInt 64 (((x.toNat + 2 ^ 64 - s.toNat : Nat) : Int)) &&& BitVec.ofInt 64 (iv s)).toNat = (x.toNat + 2 ^ 64 - s.toNat) &&& s.toNat := by
    rw [BitVec.toNat_and]
    have a1 : (BitVec.ofInt 64 (((x.toNat + 2 ^ 64 - s.toNat : Nat) : Int))).toNat = x.toNat + 2 ^ 64 - s.toNat := by
      rw [BitVec.ofInt_natCast, BitVec.toNat_ofNat]; exact Nat.mod_eq_of_lt (by omega)
    have a2 : (BitVec.ofInt 64 (iv s)).toNat = s.toNat := by
      unfold iv
      rw [BitVec.ofInt_natCast, BitVec.toNat_ofNat]; exact Nat.mod_eq_of_lt (by omega)
    rw [a1, a2]
  rw [e2, e1, e3, IntKind.wrap_u64]
  unfold iv
  rw [nxt_nat]
  omega
theorem u64_iv (s : S) : IntKind.u64.wrap (iv s) = iv s := by
  rw [IntKind.wrap_u64]; have := iv_nonneg s; have := iv_lt s; omega

theorem next_any (x s : S) (h : x.toNat < s.toNat) (w : World) :
    Calls Tryz.prog 79 #[.int .u64 (iv x), .int .u64 (iv s)] w fun e w' => e = .returned (.int .u64 (iv (nxt x s))) ∧ w = w' := by
  have hb := nxt_bits x s h
  have hne : (x == s) = false := by rw [beq_eq_false_iff_ne]; rintro rfl; omega
  generalize nxt x s = y at *
  clear h
  go_enter Tryz.func79, Tryz.ntmps79
  go_wp2_with fail
  go_ret
  exact ⟨rfl, rfl⟩
theorem next_end (s : S) (w : World) :
    Calls Tryz.prog 79 #[.int .u64 (iv s), .int .u64 (iv s)] w fun e w' => e = .returned (.int .u64 (iv s + 1)) ∧ w = w' := by
  have hne : (s == s) = true := by simp
  have hw : IntKind.u64.wrap (iv s + 1) = iv s + 1 := by rw [IntKind.wrap_u64]; have := iv_nonneg s; have := iv_lt s; omega
  go_enter Tryz.func79, Tryz.ntmps79
  go_wp2_with fail
  go_ret
  exact ⟨rfl, rfl⟩

/-! The lists on the way. -/
theorem subs_step {s x : S} {k : Nat} {ys : List S} (hx : sub x s) (h : IsOrd ys (fun y => sub y s ∧ (pop y < k ∨ pop y = k ∧ y.toNat < x.toNat))) (hk : pop x = k) :
    IsOrd (ys ++ [x]) (fun y => sub y s ∧ (pop y < k ∨ pop y = k ∧ (y.toNat < x.toNat ∨ y = x))) := by
  refine ⟨?_, fun y => ?_⟩
  · rw [List.pairwise_append]
    refine ⟨h.1, by simp, fun a ha b hb => ?_⟩
    rw [List.mem_singleton] at hb
    subst hb
    obtain ⟨_, h2⟩ := (h.2 a).1 ha
    rw [bef_iff]
    omega
  · rw [List.mem_append, List.mem_singleton, h.2 y]
    constructor
    · rintro (⟨h1, h2 | ⟨h2, h3⟩⟩ | rfl)
      · exact ⟨h1, .inl h2⟩
      · exact ⟨h1, .inr ⟨h2, .inl h3⟩⟩
      · exact ⟨hx, .inr ⟨hk, .inr rfl⟩⟩
    · rintro ⟨h1, h2 | ⟨h2, h3 | h3⟩⟩
      · exact .inl ⟨h1, .inl h2⟩
      · exact .inl ⟨h1, .inr ⟨h2, h3⟩⟩
      · exact .inr h3
theorem subs_skip {s x : S} {k : Nat} {ys : List S} (h : IsOrd ys (fun y => sub y s ∧ (pop y < k ∨ pop y = k ∧ y.toNat < x.toNat))) (hk : pop x ≠ k) :
    IsOrd ys (fun y => sub y s ∧ (pop y < k ∨ pop y = k ∧ (y.toNat < x.toNat ∨ y = x))) := by
  refine h.congr fun y => ?_
  constructor
  · rintro ⟨h1, h2 | ⟨h2, h3⟩⟩
    · exact ⟨h1, .inl h2⟩
    · exact ⟨h1, .inr ⟨h2, .inl h3⟩⟩
  · rintro ⟨h1, h2 | ⟨h2, h3 | rfl⟩⟩
    · exact ⟨h1, .inl h2⟩
    · exact ⟨h1, .inr ⟨h2, h3⟩⟩
    · exact absurd h2 hk
/-- Where the search stands: at a subset, or behind the last. -/
def AtX (s : S) (k : Nat) (i : Int) (ys : List S) : Prop :=
  (∃ x : S, i = iv x ∧ sub x s ∧ IsOrd ys (fun y => sub y s ∧ (pop y < k ∨ pop y = k ∧ y.toNat < x.toNat))) ∨ (i = iv s + 1 ∧ IsOrd ys (fun y => sub y s ∧ pop y < k + 1))
theorem atX_zero {s : S} {k : Nat} {ys : List S} (h : IsOrd ys (fun y => sub y s ∧ pop y < k)) : AtX s k 0 ys :=
  .inl ⟨0#32, rfl, sub_zero s, h.congr fun y => by simp⟩
theorem atX_next {s x : S} {k : Nat} {ys : List S} (hx : sub x s) (hne : x ≠ s) (h : IsOrd ys (fun y => sub y s ∧ (pop y < k ∨ pop y = k ∧ (y.toNat < x.toNat ∨ y = x)))) : AtX s k (iv (nxt x s)) ys := by
  refine .inl ⟨nxt x s, rfl, nxt_sub x s, h.congr fun y => ?_⟩
  constructor
  · rintro ⟨h1, h2⟩; exact ⟨h1, by rw [nxt_spec hx h1 hne]; exact h2⟩
  · rintro ⟨h1, h2⟩; exact ⟨h1, by rw [nxt_spec hx h1 hne] at h2; exact h2⟩
theorem atX_last {s : S} {k : Nat} {ys : List S} (h : IsOrd ys (fun y => sub y s ∧ (pop y < k ∨ pop y = k ∧ (y.toNat < s.toNat ∨ y = s)))) : AtX s k (iv s + 1) ys := by
  refine .inr ⟨rfl, h.congr fun y => ?_⟩
  constructor
  · rintro ⟨h1, h2⟩; exact ⟨h1, by omega⟩
  · rintro ⟨h1, h2⟩
    refine ⟨h1, ?_⟩
    have h3 := sub_toNat h1
    by_cases e : pop y < k
    · exact .inl e
    · refine .inr ⟨by omega, ?_⟩
      by_cases e2 : y.toNat = s.toNat
      · exact .inr (BitVec.eq_of_toNat_eq e2)
      · exact .inl (by omega)

set_option maxHeartbeats 800000 in
theorem refSubsets_any (s : S) (w : World) :
    Calls Tryz.prog 41 #[enc s] w fun e w' => ∃ v' ys, e = .returned v' ∧ w'.ownsRow w.heap.size 53 1 v' ys.length (ys.map enc) ∧ SubsP s ys ∧ ys.length ≤ 4294967297 ∧ Below w.heap.size w w' := by
  have C := hid (fun (x : S) (W : World) => size_any x W)
  have CS := hid (fun (W : World) => size_any s W)
  have NX := hid (fun (x : S) (h : x.toNat < s.toNat) (W : World) => next_any x s h W)
  have NE := hid (fun (W : World) => next_end s W)
  have hcv := u64_iv s
  have PL := hid (fun (y : S) (h : sub y s) => sub_pop h)
  obtain ⟨p, hpe⟩ : ∃ p, pop s = p := ⟨_, rfl⟩
  rw [hpe] at CS PL
  have HPE := hid hpe
  have hp32 : p ≤ 32 := by rw [← hpe]; exact pop_le s
  clear hpe
  by_cases hp : 12 < p
  · have h12 : decide ((p : Int) > 12) = true := by simp; omega
    have HP := hid hp
    clear hp
    simp only [enc_eq] at CS ⊢
    go_enter Tryz.func41, Tryz.ntmps41
    go_wp2_with fail
    refine (CS.out _).mono ?_
    rintro e w1 ⟨rfl, hb1⟩
    have B1 := hid hb1
    clear hb1
    go_wp2_with fail
    go_ret
    exact ⟨_, [], rfl, World.ownsRow_nil _ _ _ _, ⟨fun _ => rfl, fun h => absurd HP.out (by rw [HPE.out] at h; omega)⟩, by simp, B1.out⟩
  · have h12 : decide ((p : Int) > 12) = false := by simp; omega
    have HP := hid hp
    clear hp
    simp only [enc_eq] at C CS ⊢
    go_enter Tryz.func41, Tryz.ntmps41
    go_wp2_with fail
    refine (CS.out _).mono ?_
    rintro e w1 ⟨rfl, hb1⟩
    have B1 := hid hb1
    clear hb1
    go_wp2_with fail
    go_loopw [3, 4] (fun u i wr => ∃ (k : Nat) (ys : List S), k ≤ p + 1 ∧ i = .int .i64 k ∧ wr.ownsRow w.heap.size 53 1 u ys.length (ys.map enc) ∧ Hid (IsOrd ys (fun y => sub y s ∧ pop y < k)) ∧ Below w.heap.size w wr) (fun _ i _ => p + 1 - (intOf i).toNat)
    case atStart => exact ⟨0, [], by omega, rfl, World.ownsRow_nil _ _ _ _, hid ⟨by simp, fun y => by simp⟩, B1.out⟩
    case round =>
      obtain ⟨k, ys, hk, rfl, hown, H, hnx⟩ := hrel
      obtain ⟨wo, rfl⟩ : ∃ wo : World, wo = wr := ⟨_, rfl⟩
      have hsz := hnx.size
      by_cases hlt : k ≤ p
      · have hd : decide ((k : Int) ≤ (p : Int)) = true := by simp; omega
        have A0 := hid (atX_zero H.out)
        have HO := hid hown
        have HN := hid hnx
        clear hown hnx H
        go_wp2_with fail
        refine (CS.out _).mono ?_
        rintro e w2 ⟨rfl, hb2⟩
        have O2 := hid (own_below HO.out hb2)
        have B2 := hid (HN.out.trans (hb2.mono HN.out.size))
        clear hb2 HO HN
        go_wp2_with fail
        go_loopw [3, 5] (fun u i wr => ∃ (xi : Int) (ys : List S), i = .int .u64 xi ∧ wr.ownsRow w.heap.size 53 1 u ys.length (ys.map enc) ∧ Hid (AtX s k xi ys) ∧ Below w.heap.size w wr) (fun _ i _ => (iv s + 1 - intOf i).toNat)
        case atStart => exact ⟨0, ys, rfl, O2.out, A0, B2.out⟩
        case round =>
          obtain ⟨xi, zs, rfl, hown, HA, hnx⟩ := hrel
          have hs3 := hnx.size
          rcases HA.out with ⟨x, rfl, hx, hord⟩ | ⟨rfl, hord⟩
          · have hle : iv x ≤ iv s := by have := sub_toNat hx; unfold iv; omega
            have hzl : zs.length ≤ 4294967296 := ord_bound hord.1 fun y _ => y.isLt
            have hxl := x.isLt
            have hxv := iv_wrap x
            have OR := hid hord
            have HX := hid hx
            have C1 := hid (C.out x)
            obtain ⟨q, hq⟩ : ∃ q, pop x = q := ⟨_, rfl⟩
            rw [hq] at C1
            have HO := hid hown
            have HN := hid hnx
            clear hown hnx HA hord hx
            by_cases hqk : q = k
            · subst hqk
              have S1 := hid (subs_step HX.out OR.out hq)
              have hd2 : ((q : Int) == (q : Int)) = true := by simp
              clear hq
              go_wp2_with fail
              refine (C1.out _).mono ?_
              rintro e w4 ⟨rfl, hb4⟩
              have hown4 := own_below HO.out hb4
              have hnx4 := HN.out.trans (hb4.mono HN.out.size)
              have hs4 := hnx4.size
              clear hb4
              go_wp2_with (at_builtin; refine wpList_push rfl _ _ 35 rfl w.heap.size 53 (.int .u32 0) 4 undSets infoSet rfl (by decide) enc (fun _ => rfl) _ zs rfl (hown4.alloc _) ⟨w4.heap.size, 0, none⟩ x rfl cell_new (by omega) (by simp; omega) ?_)
              intro v' w5 hown' hgrow
              have hb5 := hid (below_push hnx4 hs4 hown4 hgrow)
              have ho5 := hid (show w5.ownsRow w.heap.size 53 1 v' (zs ++ [x]).length ((zs ++ [x]).map enc) by simpa using hown')
              clear hgrow hown4 hnx4 hown'
              by_cases hxs : x = s
              · subst hxs
                have A1 := hid (atX_last S1.out)
                go_wp2_with fail
                refine (NE.out _).mono ?_
                rintro e w6 ⟨rfl, rfl⟩
                go_wp2_with fail
                go_roundw
                case rel => exact ⟨_, zs ++ [x], rfl, ho5.out, A1, hb5.out⟩
                case measure => simp only [intOf, iv]; omega
              · have A1 := hid (atX_next HX.out hxs S1.out)
                have G1 := nxt_gt HX.out hxs
                have L1 := sub_toNat_lt HX.out hxs
                have N1 := hid (NX.out x L1)
                clear NX
                generalize nxt x s = y at *
                go_wp2_with fail
                refine (N1.out _).mono ?_
                rintro e w6 ⟨rfl, rfl⟩
                go_wp2_with fail
                go_roundw
                case rel => exact ⟨_, zs ++ [x], rfl, ho5.out, A1, hb5.out⟩
                case measure => simp only [intOf, iv]; omega
            · have S1 := hid (subs_skip OR.out (by rw [hq]; exact hqk))
              have hd2 : ((q : Int) == (k : Int)) = false := by simp; omega
              clear hq
              go_wp2_with fail
              refine (C1.out _).mono ?_
              rintro e w4 ⟨rfl, hb4⟩
              have ho5 := hid (own_below HO.out hb4)
              have hb5 := hid (HN.out.trans (hb4.mono HN.out.size))
              clear hb4
              by_cases hxs : x = s
              · subst hxs
                have A1 := hid (atX_last S1.out)
                go_wp2_with fail
                refine (NE.out _).mono ?_
                rintro e w6 ⟨rfl, rfl⟩
                go_wp2_with fail
                go_roundw
                case rel => exact ⟨_, zs, rfl, ho5.out, A1, hb5.out⟩
                case measure => simp only [intOf, iv]; omega
              · have A1 := hid (atX_next HX.out hxs S1.out)
                have G1 := nxt_gt HX.out hxs
                have L1 := sub_toNat_lt HX.out hxs
                have N1 := hid (NX.out x L1)
                clear NX
                generalize nxt x s = y at *
                go_wp2_with fail
                refine (N1.out _).mono ?_
                rintro e w6 ⟨rfl, rfl⟩
                go_wp2_with fail
                go_roundw
                case rel => exact ⟨_, zs, rfl, ho5.out, A1, hb5.out⟩
                case measure => simp only [intOf, iv]; omega
          · have hgt : ¬ (iv s + 1 ≤ iv s) := by omega
            have OR := hid hord
            clear HA hord
            go_wp2_with fail
            go_roundw
            case rel => exact ⟨k + 1, zs, by omega, by go_num, hown, hid OR.out, hnx⟩
            case measure => simp [intOf]; omega
      · have hd : decide ((k : Int) ≤ (p : Int)) = false := by simp; omega
        have KP := hid (show k = p + 1 by omega)
        have hlt2 : p < k := by omega
        have hlt3 : ¬ ((k : Int) ≤ (p : Int)) := by omega
        clear hk
        have HO := hid hown
        have HN := hid hnx
        have hyl : ys.length ≤ 4294967296 := ord_bound H.out.1 fun y _ => y.isLt
        clear hown hnx
        go_wp2_with fail
        refine (CS.out _).mono ?_
        rintro e w2 ⟨rfl, hb2⟩
        have O2 := hid (own_below HO.out hb2)
        have B2 := hid (HN.out.trans (hb2.mono HN.out.size))
        clear hb2 HO HN
        go_wp2_with fail
        go_ret
        refine ⟨_, ys, rfl, O2.out, ⟨fun h => absurd h (by rw [HPE.out]; exact HP.out), fun _ => H.out.congr fun y => ⟨fun h => h.1, fun h => ⟨h, by have := PL.out y h; have := KP.out; omega⟩⟩⟩, by omega, B2.out⟩

end Go.Proofs.YthoidncbbcpnnaaGreatDoor
