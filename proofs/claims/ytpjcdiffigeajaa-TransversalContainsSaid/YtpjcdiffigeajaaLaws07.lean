/- The laws of chapter 7, over the contracts of what they call. -/
import Derived.Test.YtpjcdiffigeajaaAwake
namespace Go.Proofs.Ytpjcdiffigeajaa
open Go.RowKit

/-- A slice of sets that came in, as the row's reading tells it, is a list of sets. -/
theorem row_rd {w : World} {a : Option Addr} {len cap : Nat} {zs : List Int}
    (h : (a = none ∧ len = 0 ∧ cap = 0 ∧ zs = []) ∨ ∃ x, a = some x ∧ len ≤ cap ∧ cap ≤ maxLen ∧ zs.length = cap ∧ (∀ i, i < zs.length → w.cell? (x.add i) = some (.int .u32 (zs.getD i 0))) ∧ ∀ n ∈ zs, (Lit.int .u32 n).wf = true)
    (hl : len ≤ 35184372088832) : ∃ xs : List S, xs.length = len ∧ RdE enc w (.slice a len cap) xs := by
  rcases h with ⟨rfl, rfl, rfl, rfl⟩ | ⟨x, rfl, h1, h2, h3, h4, h5⟩
  · exact ⟨[], rfl, none, 0, rfl, Nat.le_refl _, hl, fun h => absurd h (by simp)⟩
  · refine ⟨(zs.take len).map (BitVec.ofInt 32), by simp; omega, some x, cap, by simp; omega, by simp; omega, by simp; omega, fun hp => ?_⟩
    have hp0 : 0 < zs.length := by simp at hp; omega
    obtain ⟨b, off, spot⟩ := x
    have hspot : spot = none := by simpa [Addr.add] using World.cell?_spot (h4 0 hp0)
    subst hspot
    have hc : ∀ j, j < zs.length → w.cell? ⟨b, off + j, none⟩ = some (.int .u32 (zs.getD j 0)) := fun j hj => by
      have := h4 j hj
      rwa [Addr.add_lit] at this
    refine ⟨b, off, rfl, World.block_lt_of_cell? w _ (hc 0 hp0), fun i y hy => ?_⟩
    rw [List.getElem?_map, Option.map_eq_some_iff] at hy
    obtain ⟨n, hn, rfl⟩ := hy
    have hi : i < len := by
      have := (List.getElem?_eq_some_iff.1 hn).1
      simp at this; omega
    rw [List.getElem?_take_of_lt hi] at hn
    have hi2 : i < zs.length := (List.getElem?_eq_some_iff.1 hn).1
    have hw := h5 n (List.mem_of_getElem? hn)
    simp [Lit.wf, IntKind.min, IntKind.max, IntKind.signed, IntKind.bits] at hw
    rw [hc i hi2]
    have hg : zs.getD i 0 = n := by simp [List.getD, hn]
    rw [hg]
    unfold enc
    rw [iv_ofInt n (by omega) (by omega)]
theorem int_set {n : Int} (hw : (Lit.int .u32 n).wf = true) : ∃ s : S, n = iv s := by
  simp [Lit.wf, IntKind.min, IntKind.max, IntKind.signed, IntKind.bits] at hw
  exact ⟨BitVec.ofInt 32 n, (iv_ofInt n (by omega) (by omega)).symm⟩

/-- What each law asks of a list argument: where it is short it reads. -/
def Arg (w : World) (a : Option Addr) (len cap : Nat) : Prop := len ≤ 35184372088832 → ∃ xs : List S, xs.length = len ∧ RdE enc w (.slice a len cap) xs

theorem hits_law (a : Option Addr) (len cap : Nat) (s : S) (w : World) (h : Arg w a len cap) :
    Calls Try.prog 10 #[.slice a len cap, .int .u32 (iv s)] w fun e w' => e = .returned (.bool true) ∧ Below w.heap.size w w' := by
  have AW := hid awake_any
  by_cases hl : len ≤ 12
  · obtain ⟨xs, hxl, hr⟩ := h (by omega)
    have A1 := hid (fun (W : World) (hb : Below w.heap.size w W) => hitsW xs s _ W (hr.below hb))
    have A2 := hid (fun (W : World) (hb : Below w.heap.size w W) => refHitsW xs s _ W (hr.below hb))
    have A3 := hid (fun (W : World) (hb : Below w.heap.size w W) => minimal_any xs s _ W (hr.below hb))
    have A4 := hid (fun (W : World) (hb : Below w.heap.size w W) => refMinimal_any xs s _ W (hr.below hb))
    clear hr hxl h
    unfold enc at *
    generalize hitsS xs s = r at *
    generalize minS xs s = t at *
    have e1 : (r == r) = true := by simp
    have e2 : (t == t) = true := by simp
    go_enter Try.func10, Try.ntmps10
    go_wp2_with fail
    refine (AW.out w).mono ?_
    rintro e w1 ⟨rfl, hb1⟩
    have B1 := hid hb1
    clear hb1
    go_wp2_with fail
    refine (A1.out _ B1.out).mono ?_
    rintro e w2 ⟨rfl, hb2⟩
    have B2 := hid (B1.out.trans (hb2.mono B1.out.size))
    clear hb2
    go_wp2_with fail
    refine (A2.out _ B2.out).mono ?_
    rintro e w3 ⟨rfl, rfl⟩
    go_wp2_with fail
    refine (A3.out _ B2.out).mono ?_
    rintro e w4 ⟨rfl, hb4⟩
    have B4 := hid (B2.out.trans (hb4.mono B2.out.size))
    clear hb4
    go_wp2_with fail
    refine (A4.out _ B4.out).mono ?_
    rintro e w5 ⟨rfl, rfl⟩
    go_wp2_with fail
    go_ret
    exact ⟨ret_bool (by simp), B4.out⟩
  · clear h
    go_enter Try.func10, Try.ntmps10
    go_wp2_with fail
    refine (AW.out w).mono ?_
    rintro e w1 ⟨rfl, hb1⟩
    have B1 := hid hb1
    clear hb1
    go_wp2_with fail
    refine (AW.out w1).mono ?_
    rintro e w2 ⟨rfl, hb2⟩
    have B2 := hid (B1.out.trans (hb2.mono B1.out.size))
    clear hb2
    go_wp2_with fail
    go_ret
    exact ⟨rfl, B2.out⟩

theorem valid_law (n : Int) (a : Option Addr) (len cap : Nat) (w : World) (h : Arg w a len cap) :
    Calls Try.prog 3 #[.int .i64 n, .slice a len cap] w fun e w' => e = .returned (.bool true) ∧ Below w.heap.size w w' := by
  have AW := hid awake_any
  by_cases hl : len ≤ 210
  · obtain ⟨xs, hxl, hr⟩ := h (by omega)
    have A0 := hid (fun (W : World) (hb : Below w.heap.size w W) => clone_any xs _ W (hr.below hb) (by omega))
    have A1 := hid (fun (v : Value) (W : World) (hv : RdE enc W v xs) => valid_any n xs v W hv)
    have A2 := hid (fun (W : World) (hb : Below w.heap.size w W) => refValid_any n xs _ W (hr.below hb))
    have L1 := hid (show xs.length ≤ 35184372088832 by omega)
    clear hr hxl h
    generalize validS n xs = r at *
    have e1 : (r == r) = true := by simp
    go_enter Try.func3, Try.ntmps3
    go_wp2_with fail
    refine (AW.out w).mono ?_
    rintro e w1 ⟨rfl, hb1⟩
    have B1 := hid hb1
    clear hb1
    go_wp2_with fail
    refine (A0.out _ B1.out).mono ?_
    rintro e w2 ⟨v2, rfl, hown, hb2⟩
    have R2 := hid (RdE.of_owns hown L1.out)
    have B2 := hid (B1.out.trans (hb2.mono B1.out.size))
    clear hb2 hown
    go_wp2_with fail
    refine (A1.out _ _ R2.out).mono ?_
    rintro e w3 ⟨rfl, hb3⟩
    have B3 := hid (B2.out.trans (hb3.mono B2.out.size))
    clear hb3
    go_wp2_with fail
    refine (A2.out _ B3.out).mono ?_
    rintro e w4 ⟨rfl, hb4⟩
    have B4 := hid (B3.out.trans (hb4.mono B3.out.size))
    clear hb4
    go_wp2_with fail
    go_ret
    exact ⟨ret_bool (by simp), B4.out⟩
  · clear h
    go_enter Try.func3, Try.ntmps3
    go_wp2_with fail
    refine (AW.out w).mono ?_
    rintro e w1 ⟨rfl, hb1⟩
    have B1 := hid hb1
    clear hb1
    go_wp2_with fail
    refine (AW.out w1).mono ?_
    rintro e w2 ⟨rfl, hb2⟩
    have B2 := hid (B1.out.trans (hb2.mono B1.out.size))
    clear hb2
    go_wp2_with fail
    go_ret
    exact ⟨rfl, B2.out⟩

end Go.Proofs.Ytpjcdiffigeajaa
