/- The walks of Trace, the program's and the reference's. -/
import Derived.Test.YtcfcmalaabmceaaDoorFdV
import Derived.Test.YtcfcmalaabmceaaDoorGWalk
namespace Go.Proofs.YtcfcmalaabmceaaDoor
open Go.RowKit

theorem enlI_cases (fs : List F) (s : S) : (fs.findIdx? (enl s) = none ∧ enlI fs s = -1) ∨ ∃ i f, fs[i]? = some f ∧ fs.findIdx? (enl s) = some i ∧ enlI fs s = (i : Int) ∧ enl s f = true ∧ i < fs.length := by
  unfold enlI
  cases h : fs.findIdx? (enl s) with
  | none => exact .inl ⟨rfl, rfl⟩
  | some i =>
    obtain ⟨hi, he, _⟩ := List.findIdx?_eq_some_iff_getElem.1 h
    exact .inr ⟨i, fs[i], List.getElem?_eq_getElem hi, rfl, rfl, he, hi⟩

theorem trace_any (fs : List F) (s : S) (v : Value) (w : World) (hv : RdF w v fs) :
    Calls Tryd.prog 22 #[v, enc s] w fun e w' => ∃ v', e = .returned v' ∧ w'.ownsRow w.heap.size 3 1 v' (traceS fs s).length ((traceS fs s).map encI) ∧ (traceS fs s).length ≤ 4294967296 ∧ Below w.heap.size w w' := by
  have C := hid (fun (s : S) (W : World) (hb : Below w.heap.size w W) => enlarges_any fs s v W (hv.below hb))
  obtain ⟨ao, cap, rfl, h2, h3⟩ := hv.split
  clear hv
  unfold enc at *
  go_enter Tryd.func22, Tryd.ntmps22
  go_wp2_with fail
  refine (C.out s _ (Below.refl _ _)).mono ?_
  rintro e w1 ⟨rfl, hb1⟩
  go_wp2_with fail
  go_loopw [1, 5, 6] (fun u o i wr => ∃ (t : S) (out : List Nat), u = .int .u32 (iv t) ∧ i = .int .i64 (enlI fs t) ∧ wr.ownsRow w.heap.size 3 1 o out.length (out.map encI) ∧ Hid (out ++ traceS fs t = traceS fs s) ∧ out.length ≤ t.toNat ∧ Below w.heap.size w wr) (fun u _ _ _ => 4294967296 - (intOf u).toNat)
  case atStart => exact ⟨s, [], rfl, rfl, World.ownsRow_nil _ _ _ _, hid rfl, Nat.zero_le _, hb1⟩
  case round =>
    obtain ⟨t, out, rfl, rfl, hown, T, hlen, hnx⟩ := hrel
    have ht := t.isLt
    have hsz := hnx.size
    rcases enlI_cases fs t with ⟨hn, he⟩ | ⟨i, f, hf, hn, he, hen, hlt⟩
    · rw [he]
      have T2 := T.out
      rw [traceS_none hn, List.append_nil] at T2
      have T3 := hid T2
      clear he hn T T2
      go_wp2_with fail
      go_ret
      rw [← T3.out]
      exact ⟨_, rfl, hown, by omega, hnx⟩
    · rw [he]
      have T2 := T.out
      rw [traceS_some hn hf] at T2
      have T3 := hid T2
      have hg := enl_grows hen
      obtain ⟨b, off, rfl, hc⟩ := h3 i f hf
      obtain ⟨e0, e1⟩ := hc wr hnx
      have hi0 : (0 : Int) ≤ (i : Int) := by omega
      have hi1 : (i : Int) < (fs.length : Int) := by omega
      clear he hn T T2 hc h3 hf hen
      go_wp2_with (at_builtin; refine wpList_push rfl _ _ 65 rfl w.heap.size 3 (.int .i64 0) 8 undInts infoInt rfl (by decide) encI (fun _ => rfl) _ out rfl (hown.alloc _) ⟨wr.heap.size, 0, none⟩ i rfl cell_new (by omega) (by simp; omega) ?_)
      intro v' w2 hown' hgrow
      have hb2 := below_push hnx hsz hown hgrow
      clear hgrow hown hnx
      have B2 := hid hb2
      go_wp2_with fail
      refine (C.out (t ||| f.2) _ hb2).mono ?_
      rintro e w3 ⟨rfl, hb3⟩
      have B3 := hid (B2.out.trans (hb3.mono B2.out.size))
      have hown3 := own_below hown' hb3
      clear hb3 hown' hb2
      go_wp2_with fail
      go_roundw
      case rel =>
        refine ⟨t ||| f.2, out ++ [i], rfl, rfl, by simpa using hown3, hid (by rw [← T3.out]; simp), ?_, B3.out⟩
        simp only [List.length_append, List.length_singleton]
        omega
      case measure => simp [intOf, iv]; simp at hg; omega


end Go.Proofs.YtcfcmalaabmceaaDoor
