/- Texts that belong together, in one file. -/
import Derived.Test.YtgahpgmagfngfaaGreatDoorGNdA
import Derived.Test.YtgahpgmagfngfaaGreatDoorGPtB
/- The walks of indmine.at and inclusion.key (written by gennd2.py). -/
namespace Go.Proofs.YtgahpgmagfngfaaGreatDoor
open Go.RowKit
set_option linter.unusedVariables false

set_option maxHeartbeats 1600000 in
set_option maxRecDepth 100000 in
theorem iat_any (id : Int) (xs : List V3) (uv : Value) (ms : List Nat) (mv : Value) (w : World) (hu : RdV w uv xs) (hm : RdE encI w mv ms) (hok : ∀ x ∈ xs, okV x) (hms : ∀ a ∈ ms, a < xs.length) (hl : ms.length ≤ 32) :
    Calls Tryz.prog 109 #[.agg #[.int .i64 id, uv], mv] w fun e w' => e = .returned (valS (mkKS (kyB xs ms))) ∧ Below w.heap.size w w' := by
  obtain ⟨uo, ucap, rfl, -, huc⟩ := RdV.split hu
  obtain ⟨mo, mcap, rfl, -, hmc⟩ := hm.split
  have UC := hid huc
  have MC := hid hmc
  unfold encI at MC
  have KY := hid (fun (x : V3) (hx : okV x) (W : World) => key_any x hx W)
  have HML := hid hl
  have HMS := hid hms
  have OKX := hid hok
  have ha1 := below_alloc w (.cells #[.int .i64 id, .slice uo xs.length ucap] 87)
  have CR := hid (fun (W : World) (h : Below (w.alloc (.cells #[.int .i64 id, .slice uo xs.length ucap] 87)).heap.size (w.alloc (.cells #[.int .i64 id, .slice uo xs.length ucap] 87)) W) => cells2 (w := w) (a := .int .i64 id) (b := .slice uo xs.length ucap) (t := 87) W h)
  obtain ⟨wa, hwa⟩ : ∃ wa : World, w.alloc (.cells #[.int .i64 id, .slice uo xs.length ucap] 87) = wa := ⟨_, rfl⟩
  have hsa : wa.heap.size = w.heap.size + 1 := by rw [← hwa]; simp
  rw [hwa] at ha1 CR
  have hbn := isb_new wa
  have hbb := below_alloc wa (.cells #[.pointer none, .slice none 0 0] TB)
  obtain ⟨wb, hwb⟩ : ∃ wb : World, wa.alloc (.cells #[.pointer none, .slice none 0 0] TB) = wb := ⟨_, rfl⟩
  have hsb : wb.heap.size = wa.heap.size + 1 := by rw [← hwb]; simp
  rw [hwb] at hbn hbb
  obtain ⟨bb, hbbe⟩ : ∃ bb, w.heap.size + 1 = bb := ⟨_, rfl⟩
  rw [hsa, hbbe] at hbn hbb hsb
  rw [hsa, hbbe] at CR
  have CRB := hid (fun (W : World) (h : Below bb wb W) => CR.out W (hbb.trans h))
  have WAB := hid (show Below w.heap.size w wb from ha1.trans (hbb.mono (by omega)))
  have HBB := hid hbbe
  have SB := hid hsb
  have ISB := hid hbn
  have WA := hid hwa
  have WB := hid hwb
  have HSA := hid hsa
  clear hbn hbb hsb hsa hwa hwb ha1 CR hbbe hu hm hok hms hl huc hmc
  go_enter Tryz.func109, Tryz.ntmps109
  go_wp2_with fail
  rw [WA.out, WB.out, HBB.out]
  go_loopw [12] (fun j wq => ∃ jn : Nat, jn ≤ ms.length ∧ j = .int .i64 jn ∧ Hid (Lib.IsBuilder TB 5 bb bb (Lib.byteCells (kyB xs (ms.take jn))) wq) ∧ Below bb wb wq) (fun j _ => ms.length - (intOf j).toNat)
  case atStart => exact ⟨0, Nat.zero_le _, rfl, hid (by rw [List.take_zero]; exact ISB.out), Below.refl _ _⟩
  case round =>
    obtain ⟨jn, hjk, rfl, IB, hq⟩ := hrel
    have j0 : (0 : Int) ≤ (jn : Int) := by omega
    have hjb : (jn : Int) ≤ 32 := by have := HML.out; omega
    have HQ := hid hq
    have WQ := hid (show Below w.heap.size w wr from WAB.out.trans (hq.mono (by have := HBB.out; omega)))
    have HBQ := hid (show bb ≤ wr.heap.size by have h1 := hq.size; have h2 := SB.out; omega)
    by_cases hlj : jn < ms.length
    · obtain ⟨a, ha⟩ := get_some hlj
      obtain ⟨mb, moff, rfl, hmd⟩ := MC.out jn a ha
      have g0 := hmd wr WQ.out
      have hal : a < xs.length := HMS.out a (List.mem_of_getElem? ha)
      have hai : (a : Int) < (xs.length : Int) := by omega
      have a0 : (0 : Int) ≤ (a : Int) := by omega
      obtain ⟨x, hx⟩ := get_some hal
      obtain ⟨vb, voff, rfl, hvd⟩ := UC.out a x hx
      obtain ⟨x0, x1, x2⟩ := hvd wr WQ.out
      obtain ⟨q0, q1⟩ := CRB.out wr hq
      have HK := hid (KY.out x (OKX.out x (List.mem_of_getElem? hx)) wr)
      have NXT := hid (kyB_next (j := jn) ha hx)
      have LEN := hid (show (kyB xs (ms.take jn)).length ≤ 12896 from kyB_length (fun y hy => (OKX.out y hy).1) (fun z hz => HMS.out z (List.mem_of_mem_take hz)) (by have := List.length_take_le jn ms; have := HML.out; omega))
      have LE2 := hid (keyB_length x (OKX.out x (List.mem_of_getElem? hx)).1)
      have HLJ := hid hlj
      clear hmd ha hx hvd hal hlj hq
      go_wp2_with fail
      refine HK.out.mono ?_
      rintro e w7 ⟨rfl, hb7⟩
      have WR7 := hid (bwrite_any bb bb (Lib.byteCells (kyB xs (ms.take jn))) ⟨(keyB x).toArray⟩ w7 (isb_below IB.out hb7) (by rw [Lib.byteCells_length]; have h1 := LEN.out; have h2 := LE2.out; show (kyB xs (ms.take jn)).length + (strB (keyB x)).size ≤ 1000000; rw [strB_size]; omega) (by have := HBQ.out; have := hb7.size; omega))
      have Q7 := hid (HQ.out.trans (hb7.mono HBQ.out))
      obtain ⟨sb, hsb⟩ : ∃ sb : ByteArray, (⟨(keyB x).toArray⟩ : ByteArray) = sb := ⟨_, rfl⟩
      rw [hsb] at WR7
      rw [hsb]
      have HSB := hid hsb
      clear hb7 hsb q0 q1 x0 x1 x2 g0
      go_wp2_with fail
      refine WR7.out.mono ?_
      rintro e w8 ⟨rfl, hbd, hb8⟩
      have IB8 := hid (show Lib.IsBuilder TB 5 bb bb (Lib.byteCells (kyB xs (ms.take (jn + 1)))) w8 from .inr (by rw [NXT.out, Lib.byteCells_append, ← strCells_byte (keyB x), HSB.out]; exact hbd))
      have Q8 := hid (Q7.out.trans hb8)
      clear hbd hb8
      go_wp2_with fail
      go_roundw
      case rel => exact ⟨jn + 1, by have := HLJ.out; omega, by go_num, IB8, Q8.out⟩
      case measure => have := HLJ.out; simp [intOf]; omega
    · have hje : jn = ms.length := by omega
      subst hje
      rw [List.take_length] at IB
      have LEN := hid (show (kyB xs ms).length ≤ 12896 from kyB_length (fun y hy => (OKX.out y hy).1) (fun z hz => HMS.out z hz) HML.out)
      have KV := hid (show valS (mkKS (kyB xs ms)) = .string ⟨(kyB xs ms).toArray⟩ by unfold valS; rw [mkKS_val (Nat.le_trans LEN.out (by decide))]; rfl)
      have ST8 := hid (bstring_any bb bb (kyB xs ms) wr IB.out HBQ.out)
      clear hlj hq hjk IB
      obtain ⟨sb, hsb⟩ : ∃ sb : ByteArray, (⟨(kyB xs ms).toArray⟩ : ByteArray) = sb := ⟨_, rfl⟩
      rw [hsb] at ST8 KV
      clear hsb
      go_wp2_with fail
      refine ST8.out.mono ?_
      rintro e w8 ⟨rfl, hb8⟩
      have W8 := hid (show Below w.heap.size w w8 from WQ.out.trans (hb8.mono (by have := HBB.out; omega)))
      clear hb8
      go_wp2_with fail
      go_ret
      exact ⟨by rw [KV.out]; rfl, W8.out⟩
set_option maxHeartbeats 1600000 in
set_option maxRecDepth 100000 in
theorem ikey_any (id : Int) (xs : List V3) (uv : Value) (ms : List Nat) (mv : Value) (w : World) (hu : RdV w uv xs) (hm : RdE encI w mv ms) (hok : ∀ x ∈ xs, okV x) (hms : ∀ a ∈ ms, a < xs.length) (hl : ms.length ≤ 32) :
    Calls Tryz.prog 46 #[.agg #[.int .i64 id, uv], mv] w fun e w' => e = .returned (valS (mkKS (kyB xs ms))) ∧ Below w.heap.size w w' := by
  obtain ⟨uo, ucap, rfl, -, huc⟩ := RdV.split hu
  obtain ⟨mo, mcap, rfl, -, hmc⟩ := hm.split
  have UC := hid huc
  have MC := hid hmc
  unfold encI at MC
  have KY := hid (fun (x : V3) (hx : okV x) (W : World) => key_any x hx W)
  have HML := hid hl
  have HMS := hid hms
  have OKX := hid hok
  have ha1 := below_alloc w (.cells #[.int .i64 id, .slice uo xs.length ucap] 87)
  have CR := hid (fun (W : World) (h : Below (w.alloc (.cells #[.int .i64 id, .slice uo xs.length ucap] 87)).heap.size (w.alloc (.cells #[.int .i64 id, .slice uo xs.length ucap] 87)) W) => cells2 (w := w) (a := .int .i64 id) (b := .slice uo xs.length ucap) (t := 87) W h)
  obtain ⟨wa, hwa⟩ : ∃ wa : World, w.alloc (.cells #[.int .i64 id, .slice uo xs.length ucap] 87) = wa := ⟨_, rfl⟩
  have hsa : wa.heap.size = w.heap.size + 1 := by rw [← hwa]; simp
  rw [hwa] at ha1 CR
  have hbn := isb_new wa
  have hbb := below_alloc wa (.cells #[.pointer none, .slice none 0 0] TB)
  obtain ⟨wb, hwb⟩ : ∃ wb : World, wa.alloc (.cells #[.pointer none, .slice none 0 0] TB) = wb := ⟨_, rfl⟩
  have hsb : wb.heap.size = wa.heap.size + 1 := by rw [← hwb]; simp
  rw [hwb] at hbn hbb
  obtain ⟨bb, hbbe⟩ : ∃ bb, w.heap.size + 1 = bb := ⟨_, rfl⟩
  rw [hsa, hbbe] at hbn hbb hsb
  rw [hsa, hbbe] at CR
  have CRB := hid (fun (W : World) (h : Below bb wb W) => CR.out W (hbb.trans h))
  have WAB := hid (show Below w.heap.size w wb from ha1.trans (hbb.mono (by omega)))
  have HBB := hid hbbe
  have SB := hid hsb
  have ISB := hid hbn
  have WA := hid hwa
  have WB := hid hwb
  have HSA := hid hsa
  clear hbn hbb hsb hsa hwa hwb ha1 CR hbbe hu hm hok hms hl huc hmc
  go_enter Tryz.func46, Tryz.ntmps46
  go_wp2_with fail
  rw [WA.out, WB.out, HBB.out]
  go_loopw [12] (fun j wq => ∃ jn : Nat, jn ≤ ms.length ∧ j = .int .i64 jn ∧ Hid (Lib.IsBuilder TB 5 bb bb (Lib.byteCells (kyB xs (ms.take jn))) wq) ∧ Below bb wb wq) (fun j _ => ms.length - (intOf j).toNat)
  case atStart => exact ⟨0, Nat.zero_le _, rfl, hid (by rw [List.take_zero]; exact ISB.out), Below.refl _ _⟩
  case round =>
    obtain ⟨jn, hjk, rfl, IB, hq⟩ := hrel
    have j0 : (0 : Int) ≤ (jn : Int) := by omega
    have hjb : (jn : Int) ≤ 32 := by have := HML.out; omega
    have HQ := hid hq
    have WQ := hid (show Below w.heap.size w wr from WAB.out.trans (hq.mono (by have := HBB.out; omega)))
    have HBQ := hid (show bb ≤ wr.heap.size by have h1 := hq.size; have h2 := SB.out; omega)
    by_cases hlj : jn < ms.length
    · obtain ⟨a, ha⟩ := get_some hlj
      obtain ⟨mb, moff, rfl, hmd⟩ := MC.out jn a ha
      have g0 := hmd wr WQ.out
      have hal : a < xs.length := HMS.out a (List.mem_of_getElem? ha)
      have hai : (a : Int) < (xs.length : Int) := by omega
      have a0 : (0 : Int) ≤ (a : Int) := by omega
      obtain ⟨x, hx⟩ := get_some hal
      obtain ⟨vb, voff, rfl, hvd⟩ := UC.out a x hx
      obtain ⟨x0, x1, x2⟩ := hvd wr WQ.out
      obtain ⟨q0, q1⟩ := CRB.out wr hq
      have HK := hid (KY.out x (OKX.out x (List.mem_of_getElem? hx)) wr)
      have NXT := hid (kyB_next (j := jn) ha hx)
      have LEN := hid (show (kyB xs (ms.take jn)).length ≤ 12896 from kyB_length (fun y hy => (OKX.out y hy).1) (fun z hz => HMS.out z (List.mem_of_mem_take hz)) (by have := List.length_take_le jn ms; have := HML.out; omega))
      have LE2 := hid (keyB_length x (OKX.out x (List.mem_of_getElem? hx)).1)
      have HLJ := hid hlj
      clear hmd ha hx hvd hal hlj hq
      go_wp2_with fail
      refine HK.out.mono ?_
      rintro e w7 ⟨rfl, hb7⟩
      have WR7 := hid (bwrite_any bb bb (Lib.byteCells (kyB xs (ms.take jn))) ⟨(keyB x).toArray⟩ w7 (isb_below IB.out hb7) (by rw [Lib.byteCells_length]; have h1 := LEN.out; have h2 := LE2.out; show (kyB xs (ms.take jn)).length + (strB (keyB x)).size ≤ 1000000; rw [strB_size]; omega) (by have := HBQ.out; have := hb7.size; omega))
      have Q7 := hid (HQ.out.trans (hb7.mono HBQ.out))
      obtain ⟨sb, hsb⟩ : ∃ sb : ByteArray, (⟨(keyB x).toArray⟩ : ByteArray) = sb := ⟨_, rfl⟩
      rw [hsb] at WR7
      rw [hsb]
      have HSB := hid hsb
      clear hb7 hsb q0 q1 x0 x1 x2 g0
      go_wp2_with fail
      refine WR7.out.mono ?_
      rintro e w8 ⟨rfl, hbd, hb8⟩
      have IB8 := hid (show Lib.IsBuilder TB 5 bb bb (Lib.byteCells (kyB xs (ms.take (jn + 1)))) w8 from .inr (by rw [NXT.out, Lib.byteCells_append, ← strCells_byte (keyB x), HSB.out]; exact hbd))
      have Q8 := hid (Q7.out.trans hb8)
      clear hbd hb8
      go_wp2_with fail
      go_roundw
      case rel => exact ⟨jn + 1, by have := HLJ.out; omega, by go_num, IB8, Q8.out⟩
      case measure => have := HLJ.out; simp [intOf]; omega
    · have hje : jn = ms.length := by omega
      subst hje
      rw [List.take_length] at IB
      have LEN := hid (show (kyB xs ms).length ≤ 12896 from kyB_length (fun y hy => (OKX.out y hy).1) (fun z hz => HMS.out z hz) HML.out)
      have KV := hid (show valS (mkKS (kyB xs ms)) = .string ⟨(kyB xs ms).toArray⟩ by unfold valS; rw [mkKS_val (Nat.le_trans LEN.out (by decide))]; rfl)
      have ST8 := hid (bstring_any bb bb (kyB xs ms) wr IB.out HBQ.out)
      clear hlj hq hjk IB
      obtain ⟨sb, hsb⟩ : ∃ sb : ByteArray, (⟨(kyB xs ms).toArray⟩ : ByteArray) = sb := ⟨_, rfl⟩
      rw [hsb] at ST8 KV
      clear hsb
      go_wp2_with fail
      refine ST8.out.mono ?_
      rintro e w8 ⟨rfl, hb8⟩
      have W8 := hid (show Below w.heap.size w w8 from WQ.out.trans (hb8.mono (by have := HBB.out; omega)))
      clear hb8
      go_wp2_with fail
      go_ret
      exact ⟨by rw [KV.out]; rfl, W8.out⟩

end Go.Proofs.YtgahpgmagfngfaaGreatDoor


/- slices.IndexFunc and ContainsFunc over tables, rows and numbers at a function value that may make memory (written by gennd3.py). -/
namespace Go.Proofs.YtgahpgmagfngfaaGreatDoor
open Go.RowKit
set_option linter.unusedVariables false

def IdxP {α : Type} (p : α → Bool) (xs : List α) (w : World) (e : Ending) (w' : World) : Prop :=
  Below w.heap.size w w' ∧ ((e = .returned (.int .i64 (-1)) ∧ xs.any p = false) ∨ ∃ k : Nat, k < xs.length ∧ e = .returned (.int .i64 (k : Int)) ∧ (xs.take k).any p = false ∧ ∀ x, xs[k]? = some x → p x = true)
theorem any_take_next {α : Type} {p : α → Bool} {xs : List α} {k : Nat} {x : α} (hx : xs[k]? = some x) (hp : p x = false) (h : (xs.take k).any p = false) : (xs.take (k + 1)).any p = false := by
  rw [take_next hx, List.any_append, h]; simp [hp]

set_option maxHeartbeats 1600000 in
theorem dTidx_any (g : Nat) (cb : Array Value) (p : D3 → Bool) (xs : List D3) (v : Value) (w : World) (hv : RdDb w v xs)
    (eg : ∀ (args : Array Value) (w : World), (callFunc g args).run Tryz.prog w = .ok (.enter g args) w)
    (hg : ∀ x ∈ xs, ∀ W : World, Below w.heap.size w W → Calls Tryz.prog g (#[.agg #[.string x.2.2.1, x.1, x.2.1]] ++ cb) W fun e w' => e = .returned (.bool (p x)) ∧ Below W.heap.size W w') :
    Calls Tryz.prog 73 #[v, .func (.func g) #[] cb] w (IdxP p xs w) := by
  obtain ⟨ao, cap, rfl, h2, hc⟩ := RdDb.split hv
  have HC := hid hc
  have G := hid hg
  clear hg hc hv
  go_enter Tryz.func73, Tryz.ntmps73
  go_wp2_with fail
  go_loopw [8] (fun i wr => ∃ k : Nat, k ≤ xs.length ∧ i = .int .i64 k ∧ Hid ((xs.take k).any p = false) ∧ Below w.heap.size w wr) (fun i _ => xs.length - (intOf i).toNat)
  case atStart => exact ⟨0, Nat.zero_le _, rfl, hid rfl, Below.refl _ _⟩
  case round =>
    obtain ⟨k, hk, rfl, H, hnx⟩ := hrel
    have NX := hid hnx
    have hsz := hnx.size
    have k0 : (0 : Int) ≤ (k : Int) := by omega
    by_cases hlt : k < xs.length
    · obtain ⟨x, hx⟩ := get_some hlt
      have X := hid hx
      obtain ⟨⟨av, rv, nm, ats, rs⟩, rfl⟩ : ∃ y : D3, y = x := ⟨x, rfl⟩
      obtain ⟨⟨b, off, rfl, hd⟩, hT⟩ := HC.out k _ hx
      obtain ⟨e0, e1, e2⟩ := hd wr hnx
      have hT1 := hT wr hnx
      obtain ⟨ao1, acap1, hav, -⟩ := hT1.1.split
      obtain ⟨ro1, rcap1, hrv, -⟩ := RdR.split hT1.2
      simp only at hav hrv e0 e1 e2
      subst hav hrv
      clear hd hT hT1
      have C1 := hid (G.out _ (List.mem_of_getElem? X.out) wr NX.out)
      have NXT := hid (fun (h : p (Value.slice ao1 ats.length acap1, Value.slice ro1 rs.length rcap1, nm, ats, rs) = false) => any_take_next X.out h H.out)
      obtain ⟨px, hpx⟩ : ∃ px, p (Value.slice ao1 ats.length acap1, Value.slice ro1 rs.length rcap1, nm, ats, rs) = px := ⟨_, rfl⟩
      have PX := hid hpx
      rw [hpx] at C1
      clear hx hnx hpx
      cases px with
      | true =>
        go_wp2_with fail
        refine C1.out.mono ?_
        rintro e w2 ⟨rfl, hb2⟩
        have B2 := hid (NX.out.trans (hb2.mono hsz))
        clear hb2
        go_wp2_with fail
        go_ret
        exact ⟨B2.out, .inr ⟨k, hlt, rfl, H.out, fun y hy => by rw [X.out] at hy; cases hy; exact PX.out⟩⟩
      | false =>
        go_wp2_with fail
        refine C1.out.mono ?_
        rintro e w2 ⟨rfl, hb2⟩
        have B2 := hid (NX.out.trans (hb2.mono hsz))
        clear hb2
        go_wp2_with fail
        go_roundw
        case rel => exact ⟨k + 1, by omega, by go_num, hid (NXT.out PX.out), B2.out⟩
        case measure => simp [intOf]; omega
    · have AN := hid (show xs.any p = false by have h := H.out; rwa [List.take_of_length_le (by omega)] at h)
      clear hnx
      go_wp2_with fail
      go_ret
      exact ⟨NX.out, .inl ⟨rfl, AN.out⟩⟩

set_option maxHeartbeats 1600000 in
theorem dTcontains_any (g : Nat) (cb : Array Value) (p : D3 → Bool) (xs : List D3) (v : Value) (w : World) (hv : RdDb w v xs)
    (eg : ∀ (args : Array Value) (w : World), (callFunc g args).run Tryz.prog w = .ok (.enter g args) w)
    (hg : ∀ x ∈ xs, ∀ W : World, Below w.heap.size w W → Calls Tryz.prog g (#[.agg #[.string x.2.2.1, x.1, x.2.1]] ++ cb) W fun e w' => e = .returned (.bool (p x)) ∧ Below W.heap.size W w') :
    Calls Tryz.prog 37 #[v, .func (.func g) #[] cb] w fun e w' => e = .returned (.bool (xs.any p)) ∧ Below w.heap.size w w' := by
  have IX := hid (dTidx_any g cb p xs v w hv eg hg)
  obtain ⟨ao, cap, rfl, -⟩ := RdDb.split hv
  obtain ⟨R, hR⟩ : ∃ R, xs.any p = R := ⟨_, rfl⟩
  rw [hR]
  have HR := hid hR
  have HM := hid (fun (k : Nat) (h : k < xs.length) => get_some h)
  clear hv hR hg eg
  go_enter Tryz.func37, Tryz.ntmps37
  go_wp2_with fail
  refine IX.out.mono ?_
  rintro e w2 ⟨hb2, ⟨rfl, ha⟩ | ⟨k, hk, rfl, ha, hp⟩⟩
  · have B2 := hid hb2
    have RF := hid (show R = false by rw [← HR.out]; exact ha)
    clear hb2 ha
    go_wp2_with fail
    go_ret
    exact ⟨by rw [RF.out]; rfl, B2.out⟩
  · have B2 := hid hb2
    have RF := hid (show R = true by
      obtain ⟨x, hx⟩ := HM.out k hk
      rw [← HR.out]
      exact List.any_eq_true.2 ⟨x, List.mem_of_getElem? hx, hp x hx⟩)
    have k0 : (0 : Int) ≤ (k : Int) := by omega
    have k1 : decide ((k : Int) ≥ 0) = true := by simp
    clear hb2 ha hp
    go_wp2_with fail
    go_ret
    exact ⟨by rw [RF.out]; first | rfl | simp, B2.out⟩

set_option maxHeartbeats 1600000 in
theorem rWidx_any (g : Nat) (cb : Array Value) (p : Row3 → Bool) (xs : List Row3) (v : Value) (w : World) (hv : RdR w v xs)
    (eg : ∀ (args : Array Value) (w : World), (callFunc g args).run Tryz.prog w = .ok (.enter g args) w)
    (hg : ∀ x ∈ xs, ∀ W : World, Below w.heap.size w W → Calls Tryz.prog g (#[.agg #[.int .i64 x.1, x.2.1]] ++ cb) W fun e w' => e = .returned (.bool (p x)) ∧ Below W.heap.size W w') :
    Calls Tryz.prog 149 #[v, .func (.func g) #[] cb] w (IdxP p xs w) := by
  obtain ⟨ao, cap, rfl, h2, hc⟩ := RdR.split hv
  have HC := hid hc
  have G := hid hg
  clear hg hc hv
  go_enter Tryz.func149, Tryz.ntmps149
  go_wp2_with fail
  go_loopw [8] (fun i wr => ∃ k : Nat, k ≤ xs.length ∧ i = .int .i64 k ∧ Hid ((xs.take k).any p = false) ∧ Below w.heap.size w wr) (fun i _ => xs.length - (intOf i).toNat)
  case atStart => exact ⟨0, Nat.zero_le _, rfl, hid rfl, Below.refl _ _⟩
  case round =>
    obtain ⟨k, hk, rfl, H, hnx⟩ := hrel
    have NX := hid hnx
    have hsz := hnx.size
    have k0 : (0 : Int) ≤ (k : Int) := by omega
    by_cases hlt : k < xs.length
    · obtain ⟨x, hx⟩ := get_some hlt
      have X := hid hx
      obtain ⟨⟨rid, uv, vs⟩, rfl⟩ : ∃ y : Row3, y = x := ⟨x, rfl⟩
      obtain ⟨⟨b, off, rfl, hd⟩, hT⟩ := HC.out k _ hx
      obtain ⟨e0, e1⟩ := hd wr hnx
      have hT1 := hT wr hnx
      obtain ⟨uo1, ucap1, huv, -⟩ := RdV.split hT1
      simp only at huv e0 e1
      subst huv
      clear hd hT hT1
      have C1 := hid (G.out _ (List.mem_of_getElem? X.out) wr NX.out)
      have NXT := hid (fun (h : p (rid, Value.slice uo1 vs.length ucap1, vs) = false) => any_take_next X.out h H.out)
      obtain ⟨px, hpx⟩ : ∃ px, p (rid, Value.slice uo1 vs.length ucap1, vs) = px := ⟨_, rfl⟩
      have PX := hid hpx
      rw [hpx] at C1
      clear hx hnx hpx
      cases px with
      | true =>
        go_wp2_with fail
        refine C1.out.mono ?_
        rintro e w2 ⟨rfl, hb2⟩
        have B2 := hid (NX.out.trans (hb2.mono hsz))
        clear hb2
        go_wp2_with fail
        go_ret
        exact ⟨B2.out, .inr ⟨k, hlt, rfl, H.out, fun y hy => by rw [X.out] at hy; cases hy; exact PX.out⟩⟩
      | false =>
        go_wp2_with fail
        refine C1.out.mono ?_
        rintro e w2 ⟨rfl, hb2⟩
        have B2 := hid (NX.out.trans (hb2.mono hsz))
        clear hb2
        go_wp2_with fail
        go_roundw
        case rel => exact ⟨k + 1, by omega, by go_num, hid (NXT.out PX.out), B2.out⟩
        case measure => simp [intOf]; omega
    · have AN := hid (show xs.any p = false by have h := H.out; rwa [List.take_of_length_le (by omega)] at h)
      clear hnx
      go_wp2_with fail
      go_ret
      exact ⟨NX.out, .inl ⟨rfl, AN.out⟩⟩

set_option maxHeartbeats 1600000 in
theorem rWcontains_any (g : Nat) (cb : Array Value) (p : Row3 → Bool) (xs : List Row3) (v : Value) (w : World) (hv : RdR w v xs)
    (eg : ∀ (args : Array Value) (w : World), (callFunc g args).run Tryz.prog w = .ok (.enter g args) w)
    (hg : ∀ x ∈ xs, ∀ W : World, Below w.heap.size w W → Calls Tryz.prog g (#[.agg #[.int .i64 x.1, x.2.1]] ++ cb) W fun e w' => e = .returned (.bool (p x)) ∧ Below W.heap.size W w') :
    Calls Tryz.prog 110 #[v, .func (.func g) #[] cb] w fun e w' => e = .returned (.bool (xs.any p)) ∧ Below w.heap.size w w' := by
  have IX := hid (rWidx_any g cb p xs v w hv eg hg)
  obtain ⟨ao, cap, rfl, -⟩ := RdR.split hv
  obtain ⟨R, hR⟩ : ∃ R, xs.any p = R := ⟨_, rfl⟩
  rw [hR]
  have HR := hid hR
  have HM := hid (fun (k : Nat) (h : k < xs.length) => get_some h)
  clear hv hR hg eg
  go_enter Tryz.func110, Tryz.ntmps110
  go_wp2_with fail
  refine IX.out.mono ?_
  rintro e w2 ⟨hb2, ⟨rfl, ha⟩ | ⟨k, hk, rfl, ha, hp⟩⟩
  · have B2 := hid hb2
    have RF := hid (show R = false by rw [← HR.out]; exact ha)
    clear hb2 ha
    go_wp2_with fail
    go_ret
    exact ⟨by rw [RF.out]; rfl, B2.out⟩
  · have B2 := hid hb2
    have RF := hid (show R = true by
      obtain ⟨x, hx⟩ := HM.out k hk
      rw [← HR.out]
      exact List.any_eq_true.2 ⟨x, List.mem_of_getElem? hx, hp x hx⟩)
    have k0 : (0 : Int) ≤ (k : Int) := by omega
    have k1 : decide ((k : Int) ≥ 0) = true := by simp
    clear hb2 ha hp
    go_wp2_with fail
    go_ret
    exact ⟨by rw [RF.out]; first | rfl | simp, B2.out⟩

set_option maxHeartbeats 1600000 in
theorem iNidx_any (g : Nat) (cb : Array Value) (p : Nat → Bool) (xs : List Nat) (v : Value) (w : World) (hv : RdE encI w v xs)
    (eg : ∀ (args : Array Value) (w : World), (callFunc g args).run Tryz.prog w = .ok (.enter g args) w)
    (hg : ∀ x ∈ xs, ∀ W : World, Below w.heap.size w W → Calls Tryz.prog g (#[encI x] ++ cb) W fun e w' => e = .returned (.bool (p x)) ∧ Below W.heap.size W w') :
    Calls Tryz.prog 156 #[v, .func (.func g) #[] cb] w (IdxP p xs w) := by
  obtain ⟨ao, cap, rfl, h2, hc⟩ := hv.split
  have HC := hid hc
  have G := hid hg
  clear hg hc hv
  go_enter Tryz.func156, Tryz.ntmps156
  go_wp2_with fail
  go_loopw [8] (fun i wr => ∃ k : Nat, k ≤ xs.length ∧ i = .int .i64 k ∧ Hid ((xs.take k).any p = false) ∧ Below w.heap.size w wr) (fun i _ => xs.length - (intOf i).toNat)
  case atStart => exact ⟨0, Nat.zero_le _, rfl, hid rfl, Below.refl _ _⟩
  case round =>
    obtain ⟨k, hk, rfl, H, hnx⟩ := hrel
    have NX := hid hnx
    have hsz := hnx.size
    have k0 : (0 : Int) ≤ (k : Int) := by omega
    by_cases hlt : k < xs.length
    · obtain ⟨x, hx⟩ := get_some hlt
      have X := hid hx
      obtain ⟨b, off, rfl, hd⟩ := HC.out k x hx
      have e0 := hd wr hnx
      unfold encI at e0
      clear hd
      have C1 := hid (G.out _ (List.mem_of_getElem? X.out) wr NX.out)
      have NXT := hid (fun (h : p x = false) => any_take_next X.out h H.out)
      obtain ⟨px, hpx⟩ : ∃ px, p x = px := ⟨_, rfl⟩
      have PX := hid hpx
      rw [hpx] at C1
      clear hx hnx hpx
      unfold encI at C1
      cases px with
      | true =>
        go_wp2_with fail
        refine C1.out.mono ?_
        rintro e w2 ⟨rfl, hb2⟩
        have B2 := hid (NX.out.trans (hb2.mono hsz))
        clear hb2
        go_wp2_with fail
        go_ret
        exact ⟨B2.out, .inr ⟨k, hlt, rfl, H.out, fun y hy => by rw [X.out] at hy; cases hy; exact PX.out⟩⟩
      | false =>
        go_wp2_with fail
        refine C1.out.mono ?_
        rintro e w2 ⟨rfl, hb2⟩
        have B2 := hid (NX.out.trans (hb2.mono hsz))
        clear hb2
        go_wp2_with fail
        go_roundw
        case rel => exact ⟨k + 1, by omega, by go_num, hid (NXT.out PX.out), B2.out⟩
        case measure => simp [intOf]; omega
    · have AN := hid (show xs.any p = false by have h := H.out; rwa [List.take_of_length_le (by omega)] at h)
      clear hnx
      go_wp2_with fail
      go_ret
      exact ⟨NX.out, .inl ⟨rfl, AN.out⟩⟩

set_option maxHeartbeats 1600000 in
theorem iNcontains_any (g : Nat) (cb : Array Value) (p : Nat → Bool) (xs : List Nat) (v : Value) (w : World) (hv : RdE encI w v xs)
    (eg : ∀ (args : Array Value) (w : World), (callFunc g args).run Tryz.prog w = .ok (.enter g args) w)
    (hg : ∀ x ∈ xs, ∀ W : World, Below w.heap.size w W → Calls Tryz.prog g (#[encI x] ++ cb) W fun e w' => e = .returned (.bool (p x)) ∧ Below W.heap.size W w') :
    Calls Tryz.prog 126 #[v, .func (.func g) #[] cb] w fun e w' => e = .returned (.bool (xs.any p)) ∧ Below w.heap.size w w' := by
  have IX := hid (iNidx_any g cb p xs v w hv eg hg)
  obtain ⟨ao, cap, rfl, -⟩ := hv.split
  obtain ⟨R, hR⟩ : ∃ R, xs.any p = R := ⟨_, rfl⟩
  rw [hR]
  have HR := hid hR
  have HM := hid (fun (k : Nat) (h : k < xs.length) => get_some h)
  clear hv hR hg eg
  go_enter Tryz.func126, Tryz.ntmps126
  go_wp2_with fail
  refine IX.out.mono ?_
  rintro e w2 ⟨hb2, ⟨rfl, ha⟩ | ⟨k, hk, rfl, ha, hp⟩⟩
  · have B2 := hid hb2
    have RF := hid (show R = false by rw [← HR.out]; exact ha)
    clear hb2 ha
    go_wp2_with fail
    go_ret
    exact ⟨by rw [RF.out]; rfl, B2.out⟩
  · have B2 := hid hb2
    have RF := hid (show R = true by
      obtain ⟨x, hx⟩ := HM.out k hk
      rw [← HR.out]
      exact List.any_eq_true.2 ⟨x, List.mem_of_getElem? hx, hp x hx⟩)
    have k0 : (0 : Int) ≤ (k : Int) := by omega
    have k1 : decide ((k : Int) ≥ 0) = true := by simp
    clear hb2 ha hp
    go_wp2_with fail
    go_ret
    exact ⟨by rw [RF.out]; first | rfl | simp, B2.out⟩

theorem idxOf_first {l : List Nat} {k j : Nat} (h : k ∉ l.take j) (hj : l[j]? = some k) : l.idxOf k = j := by
  have hlt := (List.getElem?_eq_some_iff.1 hj).1
  have e : l = l.take j ++ k :: l.drop (j + 1) := by
    have h1 : l.drop j = k :: l.drop (j + 1) := by
      rw [List.drop_eq_getElem_cons hlt, (List.getElem?_eq_some_iff.1 hj).2]
    rw [← h1, List.take_append_drop]
  rw [e, List.idxOf_append, if_neg h, List.idxOf_cons_self, List.length_take]
  omega
/-- slices.Index over numbers. -/
theorem iindex_any (k : Nat) (l : List Nat) (v : Value) (w : World) (hv : RdE encI w v l) :
    Calls Tryz.prog 87 #[v, .int .i64 (k : Int)] w fun e w' => ((k ∉ l ∧ e = .returned (.int .i64 (-1))) ∨ (k ∈ l ∧ e = .returned (.int .i64 (l.idxOf k : Nat)))) ∧ Below w.heap.size w w' := by
  obtain ⟨ao, cap, rfl, hl, hc⟩ := hv.split
  have HC := hid hc
  unfold encI at HC
  clear hc hv
  go_enter Tryz.func87, Tryz.ntmps87
  go_wp2_with fail
  go_loopw [8] (fun i wr => ∃ j : Nat, j ≤ l.length ∧ i = .int .i64 j ∧ Hid (k ∉ l.take j) ∧ Below w.heap.size w wr) (fun i _ => l.length - (intOf i).toNat)
  case atStart => exact ⟨0, Nat.zero_le _, rfl, hid (by simp), Below.refl _ _⟩
  case round =>
    obtain ⟨j, hj, rfl, H, hnx⟩ := hrel
    have NX := hid hnx
    have j0 : (0 : Int) ≤ (j : Int) := by omega
    by_cases hlt : j < l.length
    · obtain ⟨x, hx⟩ := get_some hlt
      obtain ⟨b, off, rfl, hd⟩ := HC.out j x hx
      have e0 := hd wr hnx
      have TN := hid (take_next hx)
      have X := hid hx
      clear hd hx hnx
      cases hq : ((k : Int) == (x : Int)) with
      | true =>
        have hq' : ((x : Int) == (k : Int)) = true := by rw [beq_iff_eq] at hq ⊢; exact hq.symm
        have XK := hid (show k ∈ l ∧ l.idxOf k = j by
          have h := beq_iff_eq.1 hq
          have e : x = k := by omega
          have hx := X.out
          rw [e] at hx
          exact ⟨List.mem_of_getElem? hx, idxOf_first H.out hx⟩)
        go_wp2_with fail
        go_ret
        exact ⟨.inr ⟨XK.out.1, by rw [XK.out.2]; rfl⟩, NX.out⟩
      | false =>
        have hq' : ((x : Int) == (k : Int)) = false := by rw [beq_eq_false_iff_ne] at hq ⊢; exact fun e => hq e.symm
        have AN := hid (show k ∉ l.take (j + 1) by
          rw [TN.out, List.mem_append, List.mem_singleton]
          rintro (h | h)
          · exact H.out h
          · rw [h, beq_self_eq_true] at hq; cases hq)
        go_wp2_with fail
        go_roundw
        case rel => exact ⟨j + 1, by omega, by go_num, AN, NX.out⟩
        case measure => simp [intOf]; omega
    · have AN := hid (show k ∉ l by have h := H.out; rwa [List.take_of_length_le (by omega)] at h)
      clear hnx
      go_wp2_with fail
      go_ret
      exact ⟨.inl ⟨AN.out, rfl⟩, NX.out⟩
/-- slices.Contains over numbers. -/
theorem icontains_any (k : Nat) (l : List Nat) (v : Value) (w : World) (hv : RdE encI w v l) :
    Calls Tryz.prog 74 #[v, .int .i64 (k : Int)] w fun e w' => e = .returned (.bool (l.contains k)) ∧ Below w.heap.size w w' := by
  have IX := hid (iindex_any k l v w hv)
  obtain ⟨ao, cap, rfl, -⟩ := hv.split
  obtain ⟨R, hR⟩ : ∃ R, l.contains k = R := ⟨_, rfl⟩
  rw [hR]
  have HR := hid hR
  clear hv hR
  go_enter Tryz.func74, Tryz.ntmps74
  go_wp2_with fail
  refine IX.out.mono ?_
  rintro e w2 ⟨⟨hin, rfl⟩ | ⟨hin, rfl⟩, hb2⟩
  · have B2 := hid hb2
    have RF := hid (show R = false by rw [← HR.out]; simpa using hin)
    clear hb2 hin
    go_wp2_with fail
    go_ret
    exact ⟨by rw [RF.out]; rfl, B2.out⟩
  · have B2 := hid hb2
    have RF := hid (show R = true by rw [← HR.out]; simpa using hin)
    generalize l.idxOf k = q
    have k0 : (0 : Int) ≤ (q : Int) := by omega
    have k1 : decide ((q : Int) ≥ 0) = true := by simp
    clear hb2 hin
    go_wp2_with fail
    go_ret
    exact ⟨by rw [RF.out]; first | rfl | simp, B2.out⟩

/-- slices.Clone over numbers. -/
theorem iclone_any (xs : List Nat) (v : Value) (w : World) (hv : RdE encI w v xs) (h44 : xs.length < 1000000) :
    Calls Tryz.prog 75 #[v] w fun e w' => ∃ v', e = .returned v' ∧ w'.ownsRow w.heap.size 3 1 v' xs.length (xs.map encI) ∧ Below w.heap.size w w' := by
  obtain ⟨ao, cap, rfl, h1, h2, h3⟩ := hv
  have heq := fun (a : Option Addr) (n c : Nat) (w : World) => Lib.run_eql_slice_nil (P := Tryz.prog) w 37 3 a n c 0 0 undInts
  cases ao with
  | none =>
    have hx : xs = [] := by
      cases xs with
      | nil => rfl
      | cons x l => obtain ⟨b, off, h, _⟩ := h3 (by simp); cases h
    subst hx
    clear h3
    go_enter Tryz.func75, Tryz.ntmps75
    go_wp2_with fail
    go_ret
    exact ⟨_, rfl, World.ownsRow_nil _ _ _ _, Below.refl _ _⟩
  | some a =>
    obtain ⟨i, hi, hz0, hz1, hz2⟩ := info_parts infoInt
    have hcells : ∀ (j : Nat) (u : Value), (xs.map encI)[j]? = some u → w.cell? (a.add j) = some u := by
      intro j u hu
      rw [List.getElem?_map, Option.map_eq_some_iff] at hu
      obtain ⟨x, hx, rfl⟩ := hu
      have hj : j < xs.length := (List.getElem?_eq_some_iff.1 hx).1
      obtain ⟨b, off, e, _, hc⟩ := h3 (by omega)
      cases e
      rw [Addr.add_lit]
      exact hc j x hx
    have hcells2 : ∀ (j : Nat) (u : Value), (xs.map encI)[j]? = some u → (w.alloc (.cells #[] 3)).cell? (a.add j) = some u := fun j u hu => World.cell?_alloc_lt _ _ _ (World.block_lt_of_cell? _ _ (hcells j u hu)) |>.trans (hcells j u hu)
    have HC := hid hcells2
    have hown := World.ownsRow_lit (size := 1) (e := 3) w #[] 0 (Nat.le_refl _) (Nat.zero_le _) rfl
    clear hcells hcells2 h3
    go_enter Tryz.func75, Tryz.ntmps75
    have s1 : ∀ u ∈ xs.map encI, u.oneCell' = true := by intro u hu; obtain ⟨x, _, rfl⟩ := List.mem_map.1 hu; rfl
    have S1 := hid s1
    clear s1
    go_wp2_with (at_builtin; refine wpList_append_own _ rfl _ _ 37 rfl w.heap.size 3 i (.int .i64 0) 1 8 undInts hi hz0 hz1 hz2 rfl (by decide) _ _ _ rfl hown a xs.length cap (xs.map encI) rfl (by simp) HC.out S1.out (by unfold maxLen; omega) (by omega) (by simp) ?_)
    · intro v' w1 h1' hg _
      have B : Below w.heap.size w w1 := ((Below.refl _ w).alloc (Nat.le_refl _) _).grown hg (by simp) (fun k hk => by simp [Value.ownBlock] at hk; omega)
      have BB := hid B
      clear B hg
      have H := hid h1'
      clear h1'
      go_wp2_with fail
      go_ret
      exact ⟨_, rfl, by simpa using H.out, BB.out⟩

end Go.Proofs.YtgahpgmagfngfaaGreatDoor


/- The walks of inclusion.find and check, of indmine.database and checked (written by gennd4.py). -/
namespace Go.Proofs.YtgahpgmagfngfaaGreatDoor
open Go.RowKit
set_option linter.unusedVariables false

def nameP (s : ByteArray) (d : D3) : Bool := eqT d.2.2.1 s
theorem eqT_eq {a b : ByteArray} : eqT a b = true ↔ a = b := by
  unfold eqT
  rw [beq_iff_eq]
  exact ⟨fun h => bytes_ext h, fun h => by rw [h]⟩
theorem GoodD.first {ds : List D3} (h : GoodD ds) {k : Nat} (hk : k < ds.length) {i : Nat} {d : D3} (hi : ds[i]? = some d) : nameP (nmT k) d = true ↔ i = k := by
  have h3 := h.few
  have hil := (List.getElem?_eq_some_iff.1 hi).1
  unfold nameP
  rw [eqT_eq, h.name i d hi]
  exact ⟨fun e => nmT_inj (by omega) (by omega) e, fun e => by rw [e]⟩
theorem GoodD.idx {ds : List D3} (h : GoodD ds) {k : Nat} (hk : k < ds.length) {w w' : World} {e : Ending} (hq : IdxP (nameP (nmT k)) ds w e w') : e = .returned (.int .i64 (k : Int)) ∧ Below w.heap.size w w' := by
  obtain ⟨hb, ⟨rfl, ha⟩ | ⟨j, hj, rfl, -, hp⟩⟩ := hq
  · obtain ⟨d, hd⟩ := get_some hk
    have := (h.first hk hd).2 rfl
    rw [List.any_eq_false] at ha
    exact absurd this (ha d (List.mem_of_getElem? hd))
  · obtain ⟨d, hd⟩ := get_some hj
    rw [(h.first hk hd).1 (hp d hd)]
    exact ⟨rfl, hb⟩
theorem GoodD.none_before {ds : List D3} (h : GoodD ds) {k : Nat} {d : D3} (hd : ds[k]? = some d) : (ds.take k).any (nameP d.2.2.1) = false := by
  have hk := (List.getElem?_eq_some_iff.1 hd).1
  rw [List.any_eq_false]
  intro x hx
  obtain ⟨i, hi⟩ := List.mem_iff_getElem?.1 hx
  have hik : i < k := by
    have := (List.getElem?_eq_some_iff.1 hi).1
    rw [List.length_take] at this
    omega
  rw [List.getElem?_take_of_lt hik] at hi
  rw [h.name k d hd, h.first hk hi]
  omega
theorem RdDb.take {w : World} {b off cap n : Nat} {ds : List D3} (h : RdDb w (.slice (some ⟨b, off, none⟩) n cap) ds) {k : Nat} (hk : k ≤ ds.length) : RdDb w (.slice (some ⟨b, off, none⟩) k cap) (ds.take k) := by
  obtain ⟨⟨ao, cap', he, h1, h2, h3⟩, h4⟩ := h
  simp only [Value.slice.injEq] at he
  obtain ⟨rfl, rfl, rfl⟩ := he
  have hl : (ds.take k).length = k := by rw [List.length_take]; omega
  refine ⟨⟨_, _, by rw [hl], by omega, by omega, fun hp => ?_⟩, fun d hd => h4 d (List.mem_of_mem_take hd)⟩
  obtain ⟨b', off', e, hlt, hc⟩ := h3 (by omega)
  refine ⟨b', off', e, hlt, fun j u hu => hc j u ?_⟩
  have e2 : ds.flatMap cDb = (ds.take k).flatMap cDb ++ (ds.drop k).flatMap cDb := by rw [← List.flatMap_append, List.take_append_drop]
  rw [e2, List.getElem?_append_left (List.getElem?_eq_some_iff.1 hu).1]
  exact hu

theorem ifind1_any (s : ByteArray) (b : Nat) (x : D3) (w : World) (hc : w.cell? ⟨b, 0, none⟩ = some (.string s)) :
    Calls Tryz.prog 80 (#[.agg #[.string x.2.2.1, x.1, x.2.1]] ++ #[.pointer (some ⟨b, 0, none⟩)]) w fun e w' => e = .returned (.bool (nameP s x)) ∧ Below w.heap.size w w' := by
  obtain ⟨av, rv, nm, ats, rs⟩ := x
  show Calls Tryz.prog 80 #[.agg #[.string nm, av, rv], .pointer (some ⟨b, 0, none⟩)] w _
  have hb := below_alloc w (.cells #[.string nm, av, rv] 48)
  obtain ⟨c0, c1, c2⟩ := cells3 (w := w) (a := .string nm) (b := av) (c := rv) (t := 48) _ (Below.refl _ _)
  have hc' := (hb.cell (p := ⟨b, 0, none⟩) (World.block_lt_of_cell? _ _ hc)).trans hc
  have HB := hid hb
  have HQ := hid (show nameP s (av, rv, nm, ats, rs) = (nm.toList == s.toList) from rfl)
  clear hc hb
  go_enter Tryz.func80, Tryz.ntmps80
  go_wp2_with fail
  go_ret
  exact ⟨ret_bool HQ.out.symm, HB.out⟩

theorem idb1_any (s : ByteArray) (b : Nat) (x : D3) (w : World) (hc : w.cell? ⟨b, 0, none⟩ = some (.string s)) :
    Calls Tryz.prog 72 (#[.agg #[.string x.2.2.1, x.1, x.2.1]] ++ #[.pointer (some ⟨b, 0, none⟩)]) w fun e w' => e = .returned (.bool (nameP s x)) ∧ Below w.heap.size w w' := by
  obtain ⟨av, rv, nm, ats, rs⟩ := x
  show Calls Tryz.prog 72 #[.agg #[.string nm, av, rv], .pointer (some ⟨b, 0, none⟩)] w _
  have hb := below_alloc w (.cells #[.string nm, av, rv] 48)
  obtain ⟨c0, c1, c2⟩ := cells3 (w := w) (a := .string nm) (b := av) (c := rv) (t := 48) _ (Below.refl _ _)
  have hc' := (hb.cell (p := ⟨b, 0, none⟩) (World.block_lt_of_cell? _ _ hc)).trans hc
  have HB := hid hb
  have HQ := hid (show nameP s (av, rv, nm, ats, rs) = (nm.toList == s.toList) from rfl)
  clear hc hb
  go_enter Tryz.func72, Tryz.ntmps72
  go_wp2_with fail
  go_ret
  exact ⟨ret_bool HQ.out.symm, HB.out⟩

theorem ichk1_any (x : D3) (w : World) (hx : RdT w x.1 x.2.1 x.2.2) (hl : x.2.2.2.1.length ≤ 3) :
    Calls Tryz.prog 38 (#[.agg #[.string x.2.2.1, x.1, x.2.1]] ++ #[]) w fun e w' => e = .returned (.bool ((fun _ : D3 => false) x)) ∧ Below w.heap.size w w' := by
  obtain ⟨av, rv, nm, ats, rs⟩ := x
  obtain ⟨ao, acap, hav, -⟩ := hx.1.split
  simp only at hav hl
  subst hav
  show Calls Tryz.prog 38 #[.agg #[.string nm, .slice ao ats.length acap, rv]] w _
  have hb := below_alloc w (.cells #[.string nm, .slice ao ats.length acap, rv] 48)
  obtain ⟨c0, c1, c2⟩ := cells3 (w := w) (a := .string nm) (b := .slice ao ats.length acap) (c := rv) (t := 48) _ (Below.refl _ _)
  have h6 : decide ((ats.length : Int) > 6) = false := by simp; omega
  have HB := hid hb
  clear hb hx hl
  go_enter Tryz.func38, Tryz.ntmps38
  go_wp2_with fail
  go_ret
  exact ⟨rfl, HB.out⟩

theorem ifind_any (s : ByteArray) (ds : List D3) (v : Value) (w : World) (hv : RdDb w v ds) :
    Calls Tryz.prog 45 #[v, .string s] w (IdxP (nameP s) ds w) := by
  have hb := below_alloc w (.cells #[.string s] 9)
  have c0 : (w.alloc (.cells #[.string s] 9)).cell? ⟨w.heap.size, 0, none⟩ = some (.string s) := cell_new
  have hlt := World.block_lt_of_cell? _ _ c0
  have IX := hid (dTidx_any 80 #[.pointer (some ⟨w.heap.size, 0, none⟩)] (nameP s) ds v _ (hv.below hb) (enters _ _ _ Tryz.func80 (by kernel_rfl) rfl) (fun x _ W hW => ifind1_any s w.heap.size x W ((hW.cell (p := ⟨w.heap.size, 0, none⟩) hlt).trans c0)))
  have B := hid hb
  obtain ⟨ao, cap, rfl, -⟩ := hv.split
  clear hv hb c0 hlt
  go_enter Tryz.func45, Tryz.ntmps45
  go_wp2_with fail
  refine IX.out.mono ?_
  rintro e w2 ⟨hb2, hor⟩
  have B2 := hid (B.out.trans (hb2.mono B.out.size))
  have OR := hid hor
  clear hb2
  rcases hor with ⟨rfl, -⟩ | ⟨k, hk, rfl, h1, h2⟩
  · go_wp2_with fail
    go_ret
    exact ⟨B2.out, by simpa using OR.out⟩
  · clear h1 h2
    go_wp2_with fail
    go_ret
    exact ⟨B2.out, OR.out⟩
/-- The tables with their box. -/
theorem boxD (w : World) (v : Value) (W : World) (h : Below (w.alloc (.cells #[v] 29)).heap.size (w.alloc (.cells #[v] 29)) W) : W.cell? ⟨w.heap.size, 0, none⟩ = some v :=
  (h.cell (p := ⟨w.heap.size, 0, none⟩) (by simp)).trans cell_new
theorem none_of {p : D3 → Bool} {xs : List D3} {e : Ending} (h : (e = .returned (.int .i64 (-1)) ∧ xs.any p = false) ∨ ∃ k : Nat, k < xs.length ∧ e = .returned (.int .i64 (k : Int)) ∧ (xs.take k).any p = false ∧ ∀ x, xs[k]? = some x → p x = true) (ha : xs.any p = false) : ∃ x : Int, e = .returned (.int .i64 x) ∧ x < 0 := by
  rcases h with ⟨rfl, -⟩ | ⟨k, hk, rfl, -, hp⟩
  · exact ⟨-1, rfl, by omega⟩
  · obtain ⟨x, hx⟩ := get_some hk
    rw [List.any_eq_false] at ha
    exact absurd (hp x hx) (ha x (List.mem_of_getElem? hx))

set_option maxHeartbeats 1600000 in
theorem icheck_any (ds : List D3) (v : Value) (w : World) (hv : RdDb w v ds) (hg : GoodD ds) :
    Calls Tryz.prog 48 #[.agg #[v]] w fun e w' => e = .returned (.int .i64 0) ∧ Below w.heap.size w w' := by
  have hb0 := below_alloc w (.cells #[v] 29)
  have BX := hid (boxD w v)
  obtain ⟨w0, hw0⟩ : ∃ w0 : World, w.alloc (.cells #[v] 29) = w0 := ⟨_, rfl⟩
  rw [hw0] at hb0 BX
  have B0 := hid hb0
  have W0 := hid hw0
  have hs0 := hb0.size
  have V0 := hid (hv.below hb0)
  obtain ⟨ao, cap, rfl, -, hc⟩ := V0.out.split
  have HC := hid hc
  have HG := hid hg
  have l3 : (ds.length : Int) ≤ 3 := by have := hg.few; omega
  have l50 : decide ((ds.length : Int) > 50) = false := by simp; omega
  have TV := hid (fun (t : T3) (a r : Value) (W : World) (h : RdT W a r t) => tvalid_any t a r W h)
  have c0 := BX.out w0 (Below.refl _ _)
  clear hv hb0 hw0 hc hg
  go_enter Tryz.func48, Tryz.ntmps48
  go_wp2_with fail
  rw [W0.out]
  go_wp2_with fail
  go_loopw [13] (fun i wr => ∃ k : Nat, k ≤ ds.length ∧ i = .int .i64 k ∧ Below w0.heap.size w0 wr) (fun i _ => ds.length - (intOf i).toNat)
  case atStart => exact ⟨0, Nat.zero_le _, rfl, Below.refl _ _⟩
  case round =>
    obtain ⟨k, hk, rfl, hnx⟩ := hrel
    have k0 : (0 : Int) ≤ (k : Int) := by omega
    have hsz := hnx.size
    have NX := hid hnx
    by_cases hlt : k < ds.length
    · have hltI : (k : Int) < (ds.length : Int) := by omega
      obtain ⟨⟨av, rv, nm, ats, rs⟩, hd⟩ := get_some hlt
      obtain ⟨⟨b, off, rfl, hce⟩, hT⟩ := HC.out k _ hd
      obtain ⟨e0, e1, e2⟩ := hce wr hnx
      have HT := hid (hT wr hnx)
      obtain ⟨ao1, acap1, hav, -⟩ := HT.out.1.split
      obtain ⟨ro1, rcap1, hrv, -⟩ := RdR.split HT.out.2
      simp only at hav hrv e0 e1 e2
      subst hav hrv
      have TE := hid (show tabE (nm, ats, rs) = 0 from HG.out.tab _ (List.mem_of_getElem? hd))
      have NB := hid (show (ds.take k).any (nameP nm) = false from HG.out.none_before hd)
      have d0 := BX.out wr hnx
      have ha1 := below_alloc wr (.cells #[.string nm, .slice ao1 ats.length acap1, .slice ro1 rs.length rcap1] 48)
      have CT := hid (fun (W : World) h => cells3 (w := wr) (a := .string nm) (b := .slice ao1 ats.length acap1) (c := .slice ro1 rs.length rcap1) (t := 48) W h)
      obtain ⟨w1, hw1⟩ : ∃ w1 : World, wr.alloc (.cells #[.string nm, .slice ao1 ats.length acap1, .slice ro1 rs.length rcap1] 48) = w1 := ⟨_, rfl⟩
      rw [hw1] at ha1 CT
      have W1 := hid hw1
      have NX1 := hid (hnx.trans (ha1.mono hsz))
      have T1 := hid (HT.out.below ha1)
      have hs1 := ha1.size
      obtain ⟨bq, hbq⟩ : ∃ bq, wr.heap.size = bq := ⟨_, rfl⟩
      have BQ := hid hbq
      rw [hbq] at CT
      have TK := hid (V0.out.take (k := k) hk)
      have LTB := hid (show bq < w1.heap.size by rw [← hw1, ← hbq]; simp)
      clear hd hce hT hw1 ha1 hnx hbq
      go_upto_region 6 with fail
      rw [W1.out, BQ.out]
      obtain ⟨t0, t1, t2⟩ := CT.out w1 (Below.refl _ _)
      go_wp2_with fail
      refine (TV.out _ _ _ w1 T1.out).mono ?_
      rw [TE.out]
      rintro e w2 ⟨rfl, hb2⟩
      have D2 := hid hb2
      have NX2 := hid (NX1.out.trans (hb2.mono NX1.out.size))
      clear hb2 t0 t1 t2 e0 e1 e2 c0 d0
      obtain ⟨t0, t1, t2⟩ := CT.out w2 D2.out
      have d0 := BX.out w2 NX2.out
      have FI := hid (fun (W : World) (h : Below w0.heap.size w0 W) => ifind_any nm (ds.take k) _ W (TK.out.below h))
      have HS := hid (fun (W : World) (h : Below w2.heap.size w2 W) => show Below w2.heap.size w2 W ∧ W.cell? ⟨w.heap.size, 0, none⟩ = some (.slice (some ⟨b, off, none⟩) ds.length cap) ∧ W.cell? ⟨bq, 0, none⟩ = some (.string nm) from ⟨h, BX.out W (NX2.out.trans (h.mono NX2.out.size)), (CT.out W (D2.out.trans (h.mono D2.out.size))).1⟩)
      have kc : (k : Int) ≤ (cap : Int) := by
        obtain ⟨⟨_, _, he, h1, -⟩, -⟩ := V0.out
        simp only [Value.slice.injEq] at he
        omega
      have HB2 := hid (Below.refl w2.heap.size w2)
      go_wp2_with fail
      go_region_held3 (fun W => Below w2.heap.size w2 W ∧ W.cell? ⟨w.heap.size, 0, none⟩ = some (.slice (some ⟨b, off, none⟩) ds.length cap) ∧ W.cell? ⟨bq, 0, none⟩ = some (.string nm))
        (first | exact HS.out _ (below_drewN' HB2.out _) | exact HS.out _ HB2.out.drew | exact HS.out _ HB2.out | exact HS.out _ (by assumption))
        (first
          | (go_at_call 45; have hS := And.left ‹Below w2.heap.size w2 _ ∧ _ ∧ _›; (with_reducible refine (FI.out _ (NX2.out.trans (hS.mono NX2.out.size))).mono ?_); rintro e w3 ⟨hb3, hor⟩; have hL := hS.trans (hb3.mono hS.size); obtain ⟨xi, rfl, hxi⟩ := none_of hor NB.out; clear hb3 hS hor))
      all_goals
        have NX3 := hid (NX2.out.trans (hL.mono NX2.out.size))
        have hx1 : decide (xi ≥ 0) = false := by simp; omega
        clear hL
        go_wp2_with fail
      go_roundw
      case rel => exact ⟨k + 1, by omega, by go_num, NX3.out⟩
      case measure => simp [intOf]; omega
    · have hltI : ¬ (k : Int) < (ds.length : Int) := by omega
      clear hnx
      go_wp2_with fail
      go_ret
      exact ⟨rfl, B0.out.trans (NX.out.mono hs0)⟩

set_option maxHeartbeats 1600000 in
theorem idatabase_any (ds : List D3) (v : Value) (w : World) (hv : RdDb w v ds) (hg : GoodD ds) :
    Calls Tryz.prog 36 #[.agg #[v]] w fun e w' => e = .returned (.int .i64 0) ∧ Below w.heap.size w w' := by
  have hb0 := below_alloc w (.cells #[v] 29)
  have BX := hid (boxD w v)
  obtain ⟨w0, hw0⟩ : ∃ w0 : World, w.alloc (.cells #[v] 29) = w0 := ⟨_, rfl⟩
  rw [hw0] at hb0 BX
  have B0 := hid hb0
  have W0 := hid hw0
  have hs0 := hb0.size
  have V0 := hid (hv.below hb0)
  obtain ⟨ao, cap, rfl, -, hc⟩ := V0.out.split
  have HC := hid hc
  have HG := hid hg
  have l3 : (ds.length : Int) ≤ 3 := by have := hg.few; omega
  have l50 : decide ((ds.length : Int) > 50) = false := by simp; omega
  have TV := hid (fun (t : T3) (a r : Value) (W : World) (h : RdT W a r t) => tvalid_any t a r W h)
  have c0 := BX.out w0 (Below.refl _ _)
  clear hv hb0 hw0 hc hg
  go_enter Tryz.func36, Tryz.ntmps36
  go_wp2_with fail
  rw [W0.out]
  go_wp2_with fail
  go_loopw [13] (fun i wr => ∃ k : Nat, k ≤ ds.length ∧ i = .int .i64 k ∧ Below w0.heap.size w0 wr) (fun i _ => ds.length - (intOf i).toNat)
  case atStart => exact ⟨0, Nat.zero_le _, rfl, Below.refl _ _⟩
  case round =>
    obtain ⟨k, hk, rfl, hnx⟩ := hrel
    have k0 : (0 : Int) ≤ (k : Int) := by omega
    have hsz := hnx.size
    have NX := hid hnx
    by_cases hlt : k < ds.length
    · have hltI : (k : Int) < (ds.length : Int) := by omega
      obtain ⟨⟨av, rv, nm, ats, rs⟩, hd⟩ := get_some hlt
      obtain ⟨⟨b, off, rfl, hce⟩, hT⟩ := HC.out k _ hd
      obtain ⟨e0, e1, e2⟩ := hce wr hnx
      have HT := hid (hT wr hnx)
      obtain ⟨ao1, acap1, hav, -⟩ := HT.out.1.split
      obtain ⟨ro1, rcap1, hrv, -⟩ := RdR.split HT.out.2
      simp only at hav hrv e0 e1 e2
      subst hav hrv
      have TE := hid (show tabE (nm, ats, rs) = 0 from HG.out.tab _ (List.mem_of_getElem? hd))
      have NB := hid (show (ds.take k).any (nameP nm) = false from HG.out.none_before hd)
      have d0 := BX.out wr hnx
      have ha1 := below_alloc wr (.cells #[.string nm, .slice ao1 ats.length acap1, .slice ro1 rs.length rcap1] 48)
      have CT := hid (fun (W : World) h => cells3 (w := wr) (a := .string nm) (b := .slice ao1 ats.length acap1) (c := .slice ro1 rs.length rcap1) (t := 48) W h)
      obtain ⟨w1, hw1⟩ : ∃ w1 : World, wr.alloc (.cells #[.string nm, .slice ao1 ats.length acap1, .slice ro1 rs.length rcap1] 48) = w1 := ⟨_, rfl⟩
      rw [hw1] at ha1 CT
      have W1 := hid hw1
      have NX1 := hid (hnx.trans (ha1.mono hsz))
      have T1 := hid (HT.out.below ha1)
      have hs1 := ha1.size
      obtain ⟨bq, hbq⟩ : ∃ bq, wr.heap.size = bq := ⟨_, rfl⟩
      have BQ := hid hbq
      rw [hbq] at CT
      have TK := hid (V0.out.take (k := k) hk)
      have LTB := hid (show bq < w1.heap.size by rw [← hw1, ← hbq]; simp)
      clear hd hce hT hw1 ha1 hnx hbq
      go_upto_region 6 with fail
      rw [W1.out, BQ.out]
      obtain ⟨t0, t1, t2⟩ := CT.out w1 (Below.refl _ _)
      go_wp2_with fail
      refine (TV.out _ _ _ w1 T1.out).mono ?_
      rw [TE.out]
      rintro e w2 ⟨rfl, hb2⟩
      have D2 := hid hb2
      have NX2 := hid (NX1.out.trans (hb2.mono NX1.out.size))
      clear hb2 t0 t1 t2 e0 e1 e2 c0 d0
      obtain ⟨t0, t1, t2⟩ := CT.out w2 D2.out
      have d0 := BX.out w2 NX2.out
      have CF := hid (dTcontains_any 72 #[.pointer (some ⟨bq, 0, none⟩)] (nameP nm) (ds.take k) _ w2 (TK.out.below NX2.out) (enters _ _ _ Tryz.func72 (by kernel_rfl) rfl) (fun x _ W hW => idb1_any nm bq x W (CT.out W (D2.out.trans (hW.mono D2.out.size))).1))
      rw [NB.out] at CF
      have kc : (k : Int) ≤ (cap : Int) := by
        obtain ⟨⟨_, _, he, h1, -⟩, -⟩ := V0.out
        simp only [Value.slice.injEq] at he
        omega
      go_wp2_with fail
      refine CF.out.mono ?_
      rintro e w3 ⟨rfl, hb3⟩
      have NX3 := hid (NX2.out.trans (hb3.mono NX2.out.size))
      clear hb3
      go_wp2_with fail
      go_roundw
      case rel => exact ⟨k + 1, by omega, by go_num, NX3.out⟩
      case measure => simp [intOf]; omega
    · have hltI : ¬ (k : Int) < (ds.length : Int) := by omega
      clear hnx
      go_wp2_with fail
      go_ret
      exact ⟨rfl, B0.out.trans (NX.out.mono hs0)⟩

set_option maxHeartbeats 1600000 in
theorem ichecked_any (ds : List D3) (v : Value) (w : World) (hv : RdDb w v ds) (hg : GoodD ds) :
    Calls Tryz.prog 17 #[.agg #[v]] w fun e w' => e = .returned (.int .i64 0) ∧ Below w.heap.size w w' := by
  have hb0 := below_alloc w (.cells #[v] 29)
  have BX := hid (boxD w v)
  obtain ⟨w0, hw0⟩ : ∃ w0 : World, w.alloc (.cells #[v] 29) = w0 := ⟨_, rfl⟩
  rw [hw0] at hb0 BX
  have B0 := hid hb0
  have W0 := hid hw0
  have hs0 := hb0.size
  have V0 := hid (hv.below hb0)
  have DB := hid (idatabase_any ds v w0 V0.out hg)
  have CO := hid (fun (W : World) (h : Below w0.heap.size w0 W) => dTcontains_any 38 #[] (fun _ => false) ds v W (V0.out.below h) (enters _ _ _ Tryz.func38 (by kernel_rfl) rfl) (fun x hx W' hW => ichk1_any x W' ((((V0.out.below h).2 x hx).below hW)) (hg.att x hx)))
  have AF := hid (show ds.any (fun _ => false) = false by simp)
  rw [AF.out] at CO
  obtain ⟨ao, cap, rfl, -⟩ := V0.out.split
  have l3 : (ds.length : Int) ≤ 3 := by have := hg.few; omega
  have l6 : decide ((ds.length : Int) > 6) = false := by simp; omega
  have c0 := BX.out w0 (Below.refl _ _)
  clear hv hb0 hw0 hg
  go_enter Tryz.func17, Tryz.ntmps17
  go_wp2_with fail
  rw [W0.out]
  go_wp2_with fail
  refine DB.out.mono ?_
  rintro e w1 ⟨rfl, hb1⟩
  have D1 := hid hb1
  have d0 := BX.out w1 hb1
  clear c0 hb1
  go_wp2_with fail
  refine (CO.out w1 D1.out).mono ?_
  rintro e w2 ⟨rfl, hb2⟩
  have D2 := hid (B0.out.trans ((D1.out.trans (hb2.mono D1.out.size)).mono hs0))
  clear d0 hb2
  go_wp2_with fail
  go_ret
  exact ⟨rfl, D2.out⟩

end Go.Proofs.YtgahpgmagfngfaaGreatDoor

