/- The walk of cover's minimal. -/
import Derived.Test.YtmlbmdcmedglaaaDoorSplit
import Derived.Laws.OwnMore
namespace Go.Proofs.YtmlbmdcmedglaaaDoor
open Go.RowKit

theorem Grow1.stored {wm wr w' : World} {vm : Value} (h : Grow1 wm vm wr vm) (hg : wr.grownBy w' vm.ownBlock) : Grow1 wm vm w' vm := h.push hg (.inl rfl)
theorem flat_set {xs : List F} {i : Nat} {x : F} (h : xs[i]? = some x) (s : S) : (xs.flatMap cF).set (i * 2) (enc s) = (xs.set i (s, x.2)).flatMap cF := by
  induction xs generalizing i with
  | nil => simp at h
  | cons y ys ih =>
    cases i with
    | zero => simp at h; subst h; simp [cF]
    | succ i =>
      have h' : ys[i]? = some x := by simpa using h
      have := ih h'
      rw [List.set_cons_succ, List.flatMap_cons, List.flatMap_cons, ← this, show (i + 1) * 2 = i * 2 + 2 by omega]
      simp [cF]
theorem own_form {w : World} {B : Nat} {e : TypeId} {size n : Nat} {v : Value} {xs : List Value} (h : w.ownsRow B e size v n xs) (hn : 0 < n) : ∃ g cap, v = .slice (some ⟨g, 0, none⟩) n cap := by
  rcases h.2 with ⟨_, h0⟩ | ⟨g, cap, cur, hv, _⟩
  · omega
  · exact ⟨g, cap, hv⟩
theorem trimN_next {l : List F} {i j a : Nat} {ms : List Nat} (h : ms[j]? = some a) : trimN l i (ms.take (j + 1)) = trimStep i (trimN l i (ms.take j)) a := by
  unfold trimN; rw [take_next h, List.foldl_append]; rfl
theorem lhsN_at {l : List F} {i : Nat} {x : F} (h : l[i]? = some x) : lhsN l i = memN x.1 32 := by unfold lhsN; simp [List.getD, h]
theorem of_ownsN {w : World} {B n : Nat} {e : TypeId} {v : Value} {xs : List F} (hn : xs.length = n) (h : w.ownsRow B e 2 v n (xs.flatMap cF)) (hl : n ≤ 35184372088832) : RdF w v xs := by
  subst hn; exact RdC.of_owns cF_length h hl
theorem cells_own {w : World} {B n g cap i : Nat} {e : TypeId} {xs : List F} {x : F} (h : w.ownsRow B e 2 (.slice (some ⟨g, 0, none⟩) n cap) n (xs.flatMap cF)) (hn : xs.length = n) (hx : xs[i]? = some x) :
    w.cell? ⟨g, i * 2, none⟩ = some (.int .u32 (iv x.1)) ∧ w.cell? ⟨g, i * 2 + 1, none⟩ = some (.int .u32 (iv x.2)) := by
  have hi := (List.getElem?_eq_some_iff.1 hx).1
  obtain ⟨h1, h2⟩ := flatF_at hx
  exact ⟨(h.cellAt _ (by omega)).trans h1, (h.cellAt _ (by omega)).trans h2⟩
def lenOf : Value → Nat
  | .slice _ n _ => n
  | _ => 0
theorem dropS_length : ∀ (n : Nat) (l : List F) (i : Nat), l.length - i ≤ n → (dropS l i).length ≤ l.length := by
  intro n
  induction n with
  | zero => intro l i h; rw [dropS_end (by omega)]; exact Nat.le_refl _
  | succ n ih =>
    intro l i h
    by_cases hlt : i < l.length
    · cases hr : redB l i with
      | true =>
        rw [dropS_yes hlt hr]
        have := others_length hlt
        have := ih (othersF l i) i (by omega); omega
      | false => rw [dropS_no hlt hr]; exact ih l (i + 1) (by omega)
    · rw [dropS_end hlt]; exact Nat.le_refl _

set_option maxHeartbeats 1600000 in
set_option maxRecDepth 100000 in
theorem minimal_any (fs : List F) (v : Value) (w : World) (hT : Tab w) (hv : RdF w v fs) (hl : fs.length < 1073741824) :
    Calls Tryd.prog 68 #[v] w fun e w' => ∃ v', e = .returned v' ∧ w'.ownsRow w.heap.size 30 2 v' (minF fs).length ((minF fs).flatMap cF) ∧ Below w.heap.size w w' := by
  have ME := hid (fun (s : S) (W : World) (h : Below w.heap.size w W) => amembers_any s W (hT.below h))
  have SP := hid (split_any fs v w hT hv (by omega))
  have SL := hid (show (splitF fs).length ≤ 32 * fs.length from Nat.le_trans (onceF_length _) (flatSplit_length _))
  have MD := hid (show dropS (onceF (trimF (splitF fs) (splitF fs).length)) 0 = minF fs from rfl)
  obtain ⟨ao, cap, rfl⟩ := hv.form
  clear hv hT
  simp only [enc_eq] at ME
  go_enter Tryd.func68, Tryd.ntmps68
  go_wp2_with fail
  refine SP.out.mono ?_
  rintro e w1 ⟨v1, rfl, ho1, hb1⟩
  have O1 := hid ho1
  have B1 := hid hb1
  have hsl := SL.out
  generalize splitF fs = l0 at *
  obtain ⟨lo, lcap, rfl⟩ := (show RdF w1 v1 l0 from RdC.of_owns cF_length ho1 (by omega)).form
  clear ho1 hb1 SP
  have EX := hid (fun (l : List F) (x : F) (a : Nat) (ha : a < 32) (u : Value) (W : World) (h : RdF W u l) => extraneous_any l x a ha u W h)
  have ON := hid (fun (l : List F) (u : Value) (W : World) (h : RdF W u l) (hh : l.length < 1099511627776) => once_any l u W h hh)
  have RE := hid (fun (l : List F) (i : Nat) (hi : i < l.length) (u : Value) (W : World) (h : RdF W u l) (hh : l.length < 1099511627776) => redundant_any l i hi u W h hh)
  have OT := hid (fun (l : List F) (i : Nat) (hi : i < l.length) (u : Value) (W : World) (h : RdF W u l) (hh : l.length < 1099511627776) => others_any l i hi u W h hh)
  go_wp2_with fail
  go_loopw [12] (fun i wr => ∃ k : Nat, k ≤ l0.length ∧ i = .int .i64 k ∧ wr.ownsRow w.heap.size 30 2 (.slice lo l0.length lcap) l0.length ((trimF l0 k).flatMap cF) ∧ Below w.heap.size w wr) (fun i _ => l0.length - (intOf i).toNat)
  case atStart => exact ⟨0, Nat.zero_le _, rfl, O1.out, B1.out⟩
  case round =>
    obtain ⟨k, hk, rfl, hown, hnx⟩ := hrel
    obtain ⟨wo, rfl⟩ : ∃ wo : World, wo = wr := ⟨_, rfl⟩
    have hsz := hnx.size
    have hlk := trimF_length l0 k
    by_cases hlt : k < l0.length
    · obtain ⟨x, hx⟩ := get_some (show k < (trimF l0 k).length by omega)
      obtain ⟨g, gcap, he⟩ := own_form hown (by omega)
      cases he
      obtain ⟨e0, e1⟩ := cells_own hown hlk hx
      have M := hid (ME.out x.1 wo hnx)
      have TN := hid (show trimF l0 (k + 1) = trimN (trimF l0 k) k (memN x.1 32) by rw [← lhsN_at hx]; rfl)
      have hml : ∀ a ∈ memN x.1 32, a < 32 := fun a ha => (mem_memN.1 ha).1
      have hmn := memN_length x.1 32
      have HML := hid hml
      clear hx hml
      generalize memN x.1 32 = ms at *
      go_wp2_with fail
      refine M.out.mono ?_
      rintro e w2 ⟨v2, rfl, ho2, hb2⟩
      have hmo := own_below hown hb2
      have HBM := hid (hnx.trans (hb2.mono hsz))
      have hgo : g < wo.heap.size := (hown.lt g rfl).2
      have hgw : w.heap.size ≤ g := (hown.lt g rfl).1
      have HMS := hid (fun (W : World) (h : Grow1 w2 (.slice (some ⟨g, 0, none⟩) l0.length lcap) W (.slice (some ⟨g, 0, none⟩) l0.length lcap)) => RdE.of_owns (h.far ho2 (fun g' h1 h2 => by cases h1; have := (ho2.lt g h2).1; omega)) (by omega))
      obtain ⟨mo, mcap, rfl, -, -⟩ := (RdE.of_owns ho2 (by omega)).split
      have HO := hid hmo
      clear hown hnx hmo hb2 ho2 M e0 e1
      have hs2 := HBM.out.size
      go_wp2_with fail
      go_loopw [22] (fun i wr => ∃ j : Nat, j ≤ ms.length ∧ i = .int .i64 j ∧ wr.ownsRow w.heap.size 30 2 (.slice (some ⟨g, 0, none⟩) l0.length lcap) l0.length ((trimN (trimF l0 k) k (ms.take j)).flatMap cF) ∧ Grow1 w2 (.slice (some ⟨g, 0, none⟩) l0.length lcap) wr (.slice (some ⟨g, 0, none⟩) l0.length lcap)) (fun i _ => ms.length - (intOf i).toNat)
      case atStart => exact ⟨0, Nat.zero_le _, rfl, HO.out, Grow1.refl _ _⟩
      case round =>
        obtain ⟨j, hj, rfl, hown, hG⟩ := hrel
        have hll : (trimN (trimF l0 k) k (ms.take j)).length = l0.length := (trimN_length _ _ _).trans hlk
        by_cases hjl : j < ms.length
        · obtain ⟨a, ha⟩ := get_some hjl
          have ha32 := HML.out a (List.mem_of_getElem? ha)
          have TS := hid (trimN_next (l := trimF l0 k) (i := k) ha)
          obtain ⟨mo', mcap', he, -, hmc⟩ := (HMS.out _ hG).split
          cases he
          obtain ⟨gm, goff, rfl, hmd⟩ := hmc j a ha
          have hem : wr.cell? ⟨gm, goff + j, none⟩ = some (.int .i64 (a : Int)) := hmd wr (Below.refl _ _)
          clear hmc hmd ha
          generalize trimN (trimF l0 k) k (ms.take j) = L at *
          obtain ⟨y, hy⟩ := get_some (show k < L.length by omega)
          obtain ⟨c0, c1⟩ := cells_own hown hll hy
          have E := hid (EX.out L y a ha32 _ wr (of_ownsN hll hown (by omega)))
          have a0 : (0 : Int) ≤ (a : Int) := by omega
          have k1 : (k : Int) < (l0.length : Int) := by omega
          have k0 : (0 : Int) ≤ (k : Int) := by omega
          cases hq : extrB L y a with
          | true =>
            rw [hq] at E
            have TS2 := hid (TS.out.trans (trimStep_yes hy hq))
            have FS := hid (flat_set hy (y.1 &&& ~~~ (1#32 <<< a)))
            simp only [enc_eq] at E FS
            clear hq TS
            go_wp2_with fail
            refine E.out.mono ?_
            rintro e w3 ⟨rfl, hb3⟩
            have hown3 := own_below hown hb3
            have hG3 := hG.below hb3
            obtain ⟨c0, c1⟩ := cells_own hown3 hll hy
            have hfz : w3.frozen? ⟨g, k * 2, none⟩ = false := hown3.frozenAt _
            clear hb3 hown hG hem hy
            go_wp2_with fail
            go_still_tail 10, (by kernel_rfl)
            have ST := hown3.stored (k * 2) (.int .u32 (iv (y.1 &&& ~~~ (1#32 <<< a))))
            rw [FS.out] at ST
            have S1 := hid ST.1
            have S2 := hid (hG3.stored ST.2)
            clear ST hown3 hG3
            go_wp2_with fail
            go_roundw
            case rel => exact ⟨j + 1, by omega, by go_num, by rw [TS2.out]; exact S1.out.drew, S2.out.drew⟩
            case measure => simp [intOf]; omega
          | false =>
            rw [hq] at E
            have TS2 := hid (TS.out.trans (trimStep_no hy hq))
            simp only [enc_eq] at E
            clear hq TS
            go_wp2_with fail
            refine E.out.mono ?_
            rintro e w3 ⟨rfl, hb3⟩
            have hown3 := own_below hown hb3
            have hG3 := hG.below hb3
            clear hb3 hown hG hem hy c0 c1
            go_wp2_with fail
            go_roundw
            case rel => exact ⟨j + 1, by omega, by go_num, by rw [TS2.out]; exact hown3, hG3⟩
            case measure => simp [intOf]; omega
        · rw [take_all hjl, ← TN.out] at hown
          have hbw := hG.of_below HBM.out HO.out hs2
          clear hG HMS
          go_wp2_with fail
          go_roundw
          case rel => exact ⟨k + 1, by omega, by go_num, hown, hbw⟩
          case measure => simp [intOf]; omega
    · obtain rfl : k = l0.length := by omega
      have R := hid (of_ownsN hlk hown (by omega))
      have OO := hid (ON.out _ _ wo R.out (by omega))
      have hol := onceF_length (trimF l0 l0.length)
      clear hown R
      generalize onceF (trimF l0 l0.length) = l1 at *
      go_wp2_with fail
      refine OO.out.mono ?_
      rintro e w2 ⟨v2, rfl, ho2, hb2⟩
      have B2 := hid (hnx.trans (hb2.mono hsz))
      have O2 := hid (own_mono ho2 hsz)
      clear ho2 hb2 hnx
      go_wp2_with fail
      go_loopw [3, 7] (fun u i wr => ∃ (l : List F) (i' : Nat), i' ≤ l.length ∧ l.length ≤ l1.length ∧ i = .int .i64 i' ∧ lenOf u = l.length ∧ wr.ownsRow w.heap.size 30 2 u l.length (l.flatMap cF) ∧ Hid (dropS l i' = minF fs) ∧ Below w.heap.size w wr) (fun u i _ => lenOf u - (intOf i).toNat)
      case atStart =>
        refine ⟨l1, 0, Nat.zero_le _, Nat.le_refl _, rfl, ?_, O2.out, hid MD.out, B2.out⟩
        obtain ⟨ao, cap, rfl⟩ := (show RdF w2 v2 l1 from RdC.of_owns cF_length O2.out (by omega)).form
        rfl
      case round =>
        obtain ⟨l, i, hil, hll1, rfl, hlo, hown, D, hnx⟩ := hrel
        have hsz := hnx.size
        have R := hid (show RdF wr u3 l from RdC.of_owns cF_length hown (by omega))
        obtain ⟨uo, ucap, rfl⟩ := R.out.form
        by_cases hlt : i < l.length
        · have RD := hid (RE.out l i hlt _ wr R.out (by omega))
          have hol := others_length hlt
          cases hq : redB l i with
          | true =>
            rw [hq] at RD
            have D2 := hid ((dropS_yes hlt hq).symm.trans D.out)
            clear hq D
            go_wp2_with fail
            refine RD.out.mono ?_
            rintro e w3 ⟨rfl, hb3⟩
            have hn3 := hnx.trans (hb3.mono hsz)
            have hs3 := hn3.size
            have OTH := hid (OT.out l i hlt _ w3 (R.out.below hb3) (by omega))
            clear hb3 hnx hown
            go_wp2_with fail
            refine OTH.out.mono ?_
            rintro e w4 ⟨v4, rfl, ho4, hb4⟩
            have hn4 := hn3.trans (hb4.mono hs3)
            have hv4 : lenOf v4 = (othersF l i).length := by
              obtain ⟨ao, cap, rfl⟩ := (show RdF w4 v4 (othersF l i) from RdC.of_owns cF_length ho4 (by omega)).form
              rfl
            have O4 := hid (own_mono ho4 hs3)
            have HV := hid hv4
            have HOL := hid hol
            clear ho4 hb4 hn3 hv4
            go_wp2_with fail
            go_roundw
            case rel => exact ⟨othersF l i, i, by rw [HOL.out]; omega, by rw [HOL.out]; omega, rfl, HV.out, O4.out, D2, hn4⟩
            case measure => rw [HV.out, HOL.out]; simp [intOf, lenOf]; omega
          | false =>
            rw [hq] at RD
            have D2 := hid ((dropS_no hlt hq).symm.trans D.out)
            clear hq D hol
            go_wp2_with fail
            refine RD.out.mono ?_
            rintro e w3 ⟨rfl, hb3⟩
            have hn3 := hnx.trans (hb3.mono hsz)
            have ho3 := own_below hown hb3
            clear hb3 hnx hown
            go_wp2_with fail
            go_roundw
            case rel => exact ⟨l, i + 1, by omega, hll1, by go_num, rfl, ho3, D2, hn3⟩
            case measure => simp [intOf, lenOf]; omega
        · have D2 := hid ((dropS_end hlt).symm.trans D.out)
          clear D
          go_wp2_with fail
          go_ret
          rw [← D2.out]
          exact ⟨_, rfl, hown, hnx⟩

end Go.Proofs.YtmlbmdcmedglaaaDoor
