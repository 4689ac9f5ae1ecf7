/- The walk of cover's Split. -/
import Derived.Test.YtmlbmdcmedglaaaDoorOnce
import Derived.Test.YtmlbmdcmedglaaaDoorGrow1
namespace Go.Proofs.YtmlbmdcmedglaaaDoor
open Go.RowKit

theorem splitX_length (x : F) : (splitX x).length ≤ 32 := by unfold splitX; rw [List.length_map]; exact memN_length _ _
theorem flatSplit_length (fs : List F) : (fs.flatMap splitX).length ≤ 32 * fs.length := by
  induction fs with
  | nil => simp
  | cons f fs ih => rw [List.flatMap_cons, List.length_append, List.length_cons]; have := splitX_length f; omega
theorem flatSplit_next {fs : List F} {k : Nat} {f : F} (h : fs[k]? = some f) : (fs.take (k + 1)).flatMap splitX = (fs.take k).flatMap splitX ++ splitX f := by
  rw [take_next h, List.flatMap_append]; simp
def sideX (x : F) (a : Nat) : F := (x.1, bit a)

set_option maxHeartbeats 800000 in
set_option maxRecDepth 100000 in
theorem split_any (fs : List F) (v : Value) (w : World) (hT : Tab w) (hv : RdF w v fs) (hl : fs.length < 34359738368) :
    Calls Tryd.prog 21 #[v] w fun e w' => ∃ v', e = .returned v' ∧ w'.ownsRow w.heap.size 30 2 v' (splitF fs).length ((splitF fs).flatMap cF) ∧ Below w.heap.size w w' := by
  have ME := hid (fun (s : S) (W : World) (h : Below w.heap.size w W) => amembers_any s W (hT.below h))
  obtain ⟨ao, cap, rfl, -, hc⟩ := hv.split
  have FC := hid hc
  have ON := hid (fun (u : Value) (W : World) (hu : RdF W u (fs.flatMap splitX)) => once_any (fs.flatMap splitX) u W hu (by have := flatSplit_length fs; omega))
  have ONE := hid (show onceF (fs.flatMap splitX) = splitF fs from rfl)
  clear hv hc hT
  simp only [enc_eq] at ME
  go_enter Tryd.func21, Tryd.ntmps21
  go_wp2_with fail
  go_loopw [3, 10] (fun o i wr => ∃ k : Nat, k ≤ fs.length ∧ i = .int .i64 k ∧ wr.ownsRow w.heap.size 30 2 o ((fs.take k).flatMap splitX).length (((fs.take k).flatMap splitX).flatMap cF) ∧ Below w.heap.size w wr) (fun _ i _ => fs.length - (intOf i).toNat)
  case atStart => exact ⟨0, Nat.zero_le _, rfl, World.ownsRow_nil _ _ _ _, Below.refl _ _⟩
  case round =>
    obtain ⟨k, hk, rfl, hown, hnx⟩ := hrel
    obtain ⟨wo, rfl⟩ : ∃ wo : World, wo = wr := ⟨_, rfl⟩
    have hsz := hnx.size
    have hol : ((fs.take k).flatMap splitX).length ≤ 32 * k := Nat.le_trans (flatSplit_length _) (by simp; omega)
    by_cases hlt : k < fs.length
    · obtain ⟨f, hf⟩ := get_some hlt
      obtain ⟨b, off, rfl, hfc⟩ := FC.out k f hf
      obtain ⟨e0, e1⟩ := hfc wo hnx
      have N := hid (flatSplit_next hf)
      have NS := hid (show splitX f = (memN (f.2 &&& ~~~ f.1) 32).map (sideX f) from rfl)
      clear hfc hf
      generalize (fs.take k).flatMap splitX = out at *
      have hb1 := below_alloc wo (.cells #[.int .u32 (iv f.1), .int .u32 (iv f.2)] 30)
      have hc0 : (wo.alloc (.cells #[.int .u32 (iv f.1), .int .u32 (iv f.2)] 30)).cell? ⟨wo.heap.size, 0, none⟩ = some (.int .u32 (iv f.1)) := by simp
      have M := hid (ME.out (f.2 &&& ~~~ f.1) (wo.alloc (.cells #[.int .u32 (iv f.1), .int .u32 (iv f.2)] 30)) (hnx.trans (hb1.mono hsz)))
      have HB := hid hb1
      have HC0 := hid hc0
      clear hb1 hc0
      go_wp2_with fail
      refine M.out.mono ?_
      rintro e w2 ⟨v2, rfl, ho2, hb2⟩
      have hbo := later HB.out hb2
      have hmo := own_below hown hbo
      have hbm := hnx.trans (hbo.mono hsz)
      have hcx : w2.cell? ⟨wo.heap.size, 0, none⟩ = some (.int .u32 (iv f.1)) := (hb2.cell (p := ⟨wo.heap.size, 0, none⟩) (by simp)).trans HC0.out
      have hlx : wo.heap.size < w2.heap.size := by have := hb2.size; simp at this; omega
      have hne : ∀ g, u3.ownBlock = some g → g < wo.heap.size := fun g hg => (hown.lt g hg).2
      have HX := hid (fun (W : World) (x : Value) (h : Grow1 w2 u3 W x) => (h.cell ⟨wo.heap.size, 0, none⟩ hlx (fun e => Nat.lt_irrefl _ (hne _ e.symm))).trans hcx)
      have hml : ∀ a ∈ memN (f.2 &&& ~~~ f.1) 32, a < 32 := fun a ha => (mem_memN.1 ha).1
      have hmn := memN_length (f.2 &&& ~~~ f.1) 32
      have HML := hid hml
      generalize memN (f.2 &&& ~~~ f.1) 32 = ms at *
      have HMS := hid (fun (W : World) (x : Value) (h : Grow1 w2 u3 W x) => RdE.of_owns (h.far ho2 (fun g h1 h2 => by have := hne g h1; have := (ho2.lt g h2).1; simp at this; omega)) (by omega))
      obtain ⟨mo, mcap, rfl, -, -⟩ := (RdE.of_owns ho2 (by omega)).split
      have HO := hid hmo
      have HBM := hid hbm
      clear hown hnx hmo hbm hbo hb2 ho2 hcx hlx hne hml HC0 HB M e0 e1
      have hs2 := HBM.out.size
      go_wp2_with fail
      go_loopw [3, 21] (fun o i wr => ∃ j : Nat, j ≤ ms.length ∧ i = .int .i64 j ∧ wr.ownsRow w.heap.size 30 2 o (out ++ (ms.take j).map (sideX f)).length ((out ++ (ms.take j).map (sideX f)).flatMap cF) ∧ Grow1 w2 u3 wr o) (fun _ i _ => ms.length - (intOf i).toNat)
      case atStart => exact ⟨0, Nat.zero_le _, rfl, by simpa using HO.out, Grow1.refl _ _⟩
      case round =>
        obtain ⟨j, hj, rfl, hown, hG⟩ := hrel
        have hsr := hG.size
        have hll : (out ++ (ms.take j).map (sideX f)).length ≤ out.length + j := by simp; omega
        by_cases hjl : j < ms.length
        · obtain ⟨a, ha⟩ := get_some hjl
          have ha32 := HML.out a (List.mem_of_getElem? ha)
          obtain ⟨mo', mcap', he, -, hmc⟩ := (HMS.out _ _ hG).split
          cases he
          obtain ⟨g, goff, rfl, hmd⟩ := hmc j a ha
          have em := hmd wr (Below.refl _ _)
          have T := hid (show out ++ (ms.take (j + 1)).map (sideX f) = (out ++ (ms.take j).map (sideX f)) ++ [sideX f a] by rw [take_next ha, List.map_append, List.append_assoc]; rfl)
          have a0 : (0 : Int) ≤ (a : Int) := by omega
          have hem : wr.cell? ⟨g, goff + j, none⟩ = some (.int .i64 (a : Int)) := em
          clear hmc hmd ha em
          generalize out ++ (ms.take j).map (sideX f) = ys at *
          go_wp2_with fail
          go_region_held3 (fun W => W.cell? ⟨wo.heap.size, 0, none⟩ = some (.int .u32 (iv f.1)))
            (first | exact HX.out _ _ hG.drew | exact HX.out _ _ (hG.alloc _).drew | exact HX.out _ _ (by assumption))
            ((refine step_pushCo (by rfl) _ _ 24 (by rfl) w.heap.size 30 (.agg #[.int .u32 0, .int .u32 0]) 2 8 undFDs infoFD rfl (by decide) (by decide) cF cF_length cF_one _ ys (by rfl) ((hown.alloc _).drew) ⟨wr.heap.size, 0, none⟩ (sideX f a) (by rfl) (cells_newFd _ (sideX f a)) (by omega) (by simp; omega) ?_; intro v' w3 hown' hgrow hob; have hG3 := (hG.alloc _).drew.push hgrow hob))
          clear hgrow hown hG hem hob
          go_wp2_with fail
          go_roundw
          case rel => exact ⟨j + 1, by omega, by go_num, by rw [T.out]; simpa using hown', hG3⟩
          case measure => simp [intOf]; omega
        · rw [take_all hjl, ← NS.out, ← N.out] at hown
          have hbw := hG.of_below HBM.out HO.out hs2
          clear hG HX HMS
          go_wp2_with fail
          go_roundw
          case rel => exact ⟨k + 1, by omega, by go_num, hown, hbw⟩
          case measure => simp [intOf]; omega
    · rw [take_all hlt] at hown hol
      have R := hid (RdC.of_owns cF_length hown (by omega))
      clear hown
      go_wp2_with fail
      refine (ON.out _ _ R.out).mono ?_
      rintro e w2 ⟨v2, rfl, ho2, hb2⟩
      have B2 := hid (hnx.trans (hb2.mono hsz))
      have O2 := hid (own_mono ho2 hsz)
      rw [ONE.out] at O2
      clear ho2 hb2 hnx
      go_wp2_with fail
      go_ret
      exact ⟨_, rfl, O2.out, B2.out⟩

end Go.Proofs.YtmlbmdcmedglaaaDoor
