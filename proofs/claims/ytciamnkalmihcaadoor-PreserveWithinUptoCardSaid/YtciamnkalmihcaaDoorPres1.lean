/- The walks of preserve's minimal and more, and of slices.IndexFunc and ContainsFunc at function values that make memory. -/
import Derived.Test.YtciamnkalmihcaaDoorPresL
import Derived.Test.YtciamnkalmihcaaDoorFd2
import Derived.Test.YtciamnkalmihcaaDoorTz
import Derived.Test.YtciamnkalmihcaaDoorAfter
namespace Go.Proofs.YtciamnkalmihcaaDoor
open Go.RowKit

theorem find_hit2 {α : Type} {xs : List α} {p : α → Bool} {k : Nat} {x : α} (h : xs[k]? = some x) (hp : p x = true) (hn : (xs.take k).any p = false) : xs.findIdx? p = some k := by
  obtain ⟨hk, rfl⟩ := List.getElem?_eq_some_iff.1 h
  rw [List.findIdx?_eq_some_iff_getElem]
  refine ⟨hk, hp, fun j hj => ?_⟩
  rw [List.any_eq_false] at hn
  exact hn xs[j] (List.mem_take_iff_getElem.2 ⟨j, by omega, rfl⟩)
theorem find_none2 {α : Type} {xs : List α} {p : α → Bool} (h : xs.any p = false) : xs.findIdx? p = none := by
  rw [List.findIdx?_eq_none_iff]
  intro x hx
  rw [List.any_eq_false] at h
  simpa using h x hx

/-- IndexFunc at sets: the first place. -/
theorem indexFuncS (g : Nat) (cb : Array Value) (p : S → Bool) (xs : List S) (v : Value) (w : World) (hv : RdE enc w v xs)
    (eg : ∀ (args : Array Value) (w : World), (callFunc g args).run Tryd.prog w = .ok (.enter g args) w)
    (hg : ∀ (x : S) (W : World), Below w.heap.size w W → Calls Tryd.prog g (#[enc x] ++ cb) W fun e W' => e = .returned (.bool (p x)) ∧ Below W.heap.size W W') :
    Calls Tryd.prog 62 #[v, .func (.func g) #[] cb] w fun e w' => ((∃ k : Nat, xs.findIdx? p = some k ∧ e = .returned (.int .i64 k)) ∨ (xs.findIdx? p = none ∧ e = .returned (.int .i64 (-1)))) ∧ Below w.heap.size w w' := by
  obtain ⟨ao, cap, rfl, h1, h2, h3⟩ := hv
  unfold enc at h3 hg
  have G := hid hg
  clear hg
  go_enter Tryd.func62, Tryd.ntmps62
  go_wp2_with fail
  go_loopw [5, 8] (fun _ i wr => ∃ k : Nat, k ≤ xs.length ∧ i = .int .i64 k ∧ Below w.heap.size w wr ∧ Hid ((xs.take k).any p = false)) (fun _ i _ => xs.length - (intOf i).toNat)
  case atStart => exact ⟨0, Nat.zero_le _, rfl, Below.refl _ _, hid rfl⟩
  case round =>
    obtain ⟨wo, rfl⟩ : ∃ wo : World, wo = wr := ⟨_, rfl⟩
    obtain ⟨k, hk, rfl, hnx, H⟩ := hrel
    by_cases hlt : k < xs.length
    · obtain ⟨b, off, rfl, hb, hc⟩ := h3 (by omega)
      obtain ⟨x, hx⟩ := get_some hlt
      have e1 := (hnx.cell (p := ⟨b, off + k, none⟩) hb).trans (hc k x hx)
      have C := hid (G.out x wo hnx)
      have X := hid hx
      have HN := hid hnx
      clear hx hc h3 hnx
      cases hp : p x with
      | true =>
        rw [hp] at C
        have P1 := hid hp
        clear hp
        go_wp2_with fail
        refine C.out.mono ?_
        rintro e w1 ⟨rfl, hb1⟩
        have B1 := hid (HN.out.trans (hb1.mono HN.out.size))
        clear hb1
        go_wp2_with fail
        go_ret
        exact ⟨.inl ⟨k, find_hit2 X.out P1.out H.out, rfl⟩, B1.out⟩
      | false =>
        rw [hp] at C
        have P1 := hid hp
        clear hp
        go_wp2_with fail
        refine C.out.mono ?_
        rintro e w1 ⟨rfl, hb1⟩
        have B1 := hid (HN.out.trans (hb1.mono HN.out.size))
        clear hb1
        go_wp2_with fail
        go_roundw
        case rel => exact ⟨k + 1, by omega, by go_num, B1.out, hid (none_next X.out P1.out H.out)⟩
        case measure => simp [intOf]; omega
    · have HN := hid hnx
      clear hnx
      go_wp2_with fail
      go_ret
      exact ⟨.inr ⟨find_none2 (any_end H.out hlt), rfl⟩, HN.out⟩

/-- IndexFunc at numbers: whether one is there. -/
theorem indexFuncI (g : Nat) (cb : Array Value) (p : Nat → Bool) (xs : List Nat) (v : Value) (w : World) (hv : RdE encI w v xs)
    (eg : ∀ (args : Array Value) (w : World), (callFunc g args).run Tryd.prog w = .ok (.enter g args) w)
    (hg : ∀ (x : Nat) (W : World), x ∈ xs → Below w.heap.size w W → Calls Tryd.prog g (#[.int .i64 x] ++ cb) W fun e W' => e = .returned (.bool (p x)) ∧ Below W.heap.size W W') :
    Calls Tryd.prog 68 #[v, .func (.func g) #[] cb] w fun e w' => (∃ n : Int, e = .returned (.int .i64 n) ∧ decide (0 ≤ n) = xs.any p) ∧ Below w.heap.size w w' := by
  obtain ⟨ao, cap, rfl, h1, h2, h3⟩ := hv
  have G := hid hg
  clear hg
  go_enter Tryd.func68, Tryd.ntmps68
  go_wp2_with fail
  go_loopw [5, 8] (fun _ i wr => ∃ k : Nat, k ≤ xs.length ∧ i = .int .i64 k ∧ Below w.heap.size w wr ∧ Hid ((xs.take k).any p = false)) (fun _ i _ => xs.length - (intOf i).toNat)
  case atStart => exact ⟨0, Nat.zero_le _, rfl, Below.refl _ _, hid rfl⟩
  case round =>
    obtain ⟨wo, rfl⟩ : ∃ wo : World, wo = wr := ⟨_, rfl⟩
    obtain ⟨k, hk, rfl, hnx, H⟩ := hrel
    by_cases hlt : k < xs.length
    · obtain ⟨b, off, rfl, hb, hc⟩ := h3 (by omega)
      obtain ⟨x, hx⟩ := get_some hlt
      have e1 : wo.cell? ⟨b, off + k, none⟩ = some (.int .i64 x) := (hnx.cell (p := ⟨b, off + k, none⟩) hb).trans (hc k x hx)
      have C := hid (G.out x wo (List.mem_of_getElem? hx) hnx)
      have X := hid hx
      have HN := hid hnx
      clear hx hc h3 hnx
      cases hp : p x with
      | true =>
        rw [hp] at C
        have P1 := hid hp
        clear hp
        go_wp2_with fail
        refine C.out.mono ?_
        rintro e w1 ⟨rfl, hb1⟩
        have B1 := hid (HN.out.trans (hb1.mono HN.out.size))
        clear hb1
        go_wp2_with fail
        go_ret
        exact ⟨⟨_, rfl, by rw [any_hit X.out P1.out]; simp⟩, B1.out⟩
      | false =>
        rw [hp] at C
        have P1 := hid hp
        clear hp
        go_wp2_with fail
        refine C.out.mono ?_
        rintro e w1 ⟨rfl, hb1⟩
        have B1 := hid (HN.out.trans (hb1.mono HN.out.size))
        clear hb1
        go_wp2_with fail
        go_roundw
        case rel => exact ⟨k + 1, by omega, by go_num, B1.out, hid (none_next X.out P1.out H.out)⟩
        case measure => simp [intOf]; omega
    · have HN := hid hnx
      clear hnx
      go_wp2_with fail
      go_ret
      exact ⟨⟨_, rfl, by rw [any_end H.out hlt]; rfl⟩, HN.out⟩
theorem containsFuncI (g : Nat) (cb : Array Value) (p : Nat → Bool) (xs : List Nat) (v : Value) (w : World) (hv : RdE encI w v xs)
    (eg : ∀ (args : Array Value) (w : World), (callFunc g args).run Tryd.prog w = .ok (.enter g args) w)
    (hg : ∀ (x : Nat) (W : World), x ∈ xs → Below w.heap.size w W → Calls Tryd.prog g (#[.int .i64 x] ++ cb) W fun e W' => e = .returned (.bool (p x)) ∧ Below W.heap.size W W') :
    Calls Tryd.prog 56 #[v, .func (.func g) #[] cb] w fun e w' => e = .returned (.bool (xs.any p)) ∧ Below w.heap.size w w' := by
  have G := hid (indexFuncI g cb p xs v w hv eg hg)
  clear hg eg
  obtain ⟨ao, cap, rfl, -⟩ := hv
  go_enter Tryd.func56, Tryd.ntmps56
  go_wp2_with fail
  refine G.out.mono ?_
  rintro e w' ⟨⟨n, rfl, hn⟩, hb⟩
  have N := hid hn
  have B := hid hb
  clear hn hb
  go_wp2_with fail
  go_ret
  exact ⟨ret_bool N.out, B.out⟩

theorem more_any (fs : List F) (p z : S) (v : Value) (w : World) (hv : RdF w v fs) :
    Calls Tryd.prog 64 #[v, enc p, enc z] w fun e w' => e = .returned (enc (moreS fs p z)) ∧ Below w.heap.size w w' := by
  have C := hid (close_any fs (z &&& p) v w hv)
  have M := hid (show moreS fs p z = p &&& closeS fs (z &&& p) &&& ~~~ z from rfl)
  rw [M.out]
  obtain ⟨ao, cap, rfl, -⟩ := hv.split
  clear hv M
  generalize closeS fs (z &&& p) = c at *
  simp only [enc_eq] at C ⊢
  go_enter Tryd.func64, Tryd.ntmps64
  go_wp2_with fail
  refine C.out.mono ?_
  rintro e w1 ⟨rfl, hb⟩
  have B := hid hb
  clear hb
  go_wp2_with fail
  go_ret
  exact ⟨rfl, B.out⟩

theorem minimal1_any (fs : List F) (v : Value) (x : S) (a : Nat) (ha : a < 32) (b : Nat) (hb : b < 32) (p1 p2 p3 : Nat) (w : World) (hv : RdF w v fs)
    (h1 : w.cell? ⟨p1, 0, none⟩ = some v) (h2 : w.cell? ⟨p2, 0, none⟩ = some (.int .u32 (iv x))) (h3 : w.cell? ⟨p3, 0, none⟩ = some (.int .i64 (a : Int))) :
    Calls Tryd.prog 57 (#[.int .i64 (b : Int)] ++ #[.pointer (some ⟨p1, 0, none⟩), .pointer (some ⟨p2, 0, none⟩), .pointer (some ⟨p3, 0, none⟩)]) w fun e w' => e = .returned (.bool (impS fs (x &&& ~~~ (1#32 <<< b), 1#32 <<< a))) ∧ Below w.heap.size w w' := by
  show Calls Tryd.prog 57 #[.int .i64 (b : Int), .pointer (some ⟨p1, 0, none⟩), .pointer (some ⟨p2, 0, none⟩), .pointer (some ⟨p3, 0, none⟩)] w _
  have C := hid (fun i : After w => Calls.after i (implies_any fs (x &&& ~~~ (1#32 <<< b), 1#32 <<< a) v i.world (hv.below i.below)))
  obtain ⟨ao, cap, rfl, -⟩ := hv.split
  clear hv
  generalize impS fs (x &&& ~~~ (1#32 <<< b), 1#32 <<< a) = r at *
  simp only [enc_eq] at C
  have e0 : ∀ i : After w, i.world.cell? ⟨p1, 0, none⟩ = some (.slice ao fs.length cap) := fun i => After.cell h1 i
  have e1 : ∀ i : After w, i.world.cell? ⟨p2, 0, none⟩ = some (.int .u32 (iv x)) := fun i => After.cell h2 i
  have e2 : ∀ i : After w, i.world.cell? ⟨p3, 0, none⟩ = some (.int .i64 (a : Int)) := fun i => After.cell h3 i
  have a0 : (0 : Int) ≤ (a : Int) := by omega
  have b0 : (0 : Int) ≤ (b : Int) := by omega
  clear h1 h2 h3
  go_enter Tryd.func57, Tryd.ntmps57
  go_wp2_with fail
  refine wp_region_after (by kernel_rfl) (by kernel_rfl) ?_
  repeat (any_goals (quiet_step (exact C.out _)))
  refine wpQuiet_nil ?_
  intro wq hq
  have BQ := hid hq
  clear hq
  go_wp2_with fail
  go_ret
  exact ⟨rfl, BQ.out⟩

end Go.Proofs.YtciamnkalmihcaaDoor
