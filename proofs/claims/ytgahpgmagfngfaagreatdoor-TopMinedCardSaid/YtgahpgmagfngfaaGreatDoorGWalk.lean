/- Texts that belong together, in one file. -/
import Derived.Test.YtgahpgmagfngfaaGreatDoorProg
import Derived.Test.YtgahpgmagfngfaaGreatDoorGPlain
import Derived.Deep.QuietTactic
import Derived.BigQuiet
import Derived.Shelf.Abstract
/- The walks of the reference's layer 2: Has, Full, In, Same. -/
namespace Go.Proofs.YtgahpgmagfngfaaGreatDoor
open Go.RowKit

theorem ret_bool {a b : Bool} (h : a = b) : Ending.returned (.bool a) = .returned (.bool b) := by rw [h]
theorem ret_int {k : IntKind} {a b : Int} (h : a = b) : Ending.returned (.int k a) = .returned (.int k b) := by rw [h]

theorem bit_test (s : S) (k : Nat) : ((iv (s >>> k &&& 1#32)) == 1) = s.getLsbD k := by
  have h1 : (1 : Int) = iv 1#32 := by decide
  rw [h1, iv_beq, Bool.eq_iff_iff, beq_iff_eq]
  constructor
  · intro h
    have := congrArg (fun x : S => x.getLsbD 0) h
    simpa using this
  · intro h
    apply BitVec.eq_of_getLsbD_eq
    intro i hi
    cases i with
    | zero => simpa using h
    | succ i => simp [BitVec.getLsbD_one]



end Go.Proofs.YtgahpgmagfngfaaGreatDoor


/- The walk of the reference's In. -/
namespace Go.Proofs.YtgahpgmagfngfaaGreatDoor
open Go.RowKit

theorem enters (f : Nat) (fn : Func) (c : Code) (hf : Tryz.prog.funcs[f]? = some fn) (hn : (fn.name == "runtime.NumGoroutine") = false) (hb : fn.body = some c) (args : Array Value) (w : World) :
    (callFunc f args).run Tryz.prog w = .ok (.enter f args) w := enters_of hf hn hb args w

theorem cell_new {w : World} {v : Value} {t : TypeId} : (w.alloc (.cells #[v] t)).cell? ⟨w.heap.size, 0, none⟩ = some v := by simp


end Go.Proofs.YtgahpgmagfngfaaGreatDoor


/- The order of sets (their sizes, then as numbers): the size, what OnesCount32 and cmp.Compare give. -/
namespace Go.Proofs.YtgahpgmagfngfaaGreatDoor
open Go.RowKit

@[go_sem] theorem iv_div24 (s : S) : iv s / (16777216 : Int) = iv (s >>> 24) := iv_shr s 24
@[go_sem] theorem iv_div16 (s : S) : iv s / (65536 : Int) = iv (s >>> 16) := iv_shr s 16
@[go_sem] theorem iv_div8 (s : S) : iv s / (256 : Int) = iv (s >>> 8) := iv_shr s 8

/-- OnesCount32. -/
theorem ones_any (s : S) (w : World) :
    Calls Tryz.prog 146 #[enc s] w fun e w' => e = .returned (.int .i64 (pop s : Nat)) ∧ ∃ q, w' = w.drewN q := by
  have hp := hid (pop_bytes s)
  have b0 : (s >>> 24).toNat < 256 := by
    have := s.isLt
    simp only [BitVec.toNat_ushiftRight, Nat.shiftRight_eq_div_pow]; omega
  have m : ∀ x : S, (x &&& 255#32).toNat < 256 := by
    intro x
    rw [BitVec.toNat_and]
    have := Nat.and_two_pow_sub_one_eq_mod x.toNat 8
    simp at this
    simp [this]; omega
  have b1 := m (s >>> 16)
  have b2 := m (s >>> 8)
  have b3 := m s
  clear m
  unfold enc
  go_enter Tryz.func146, Tryz.ntmps146
  generalize hT : ByteArray.mk _ = tab
  have h256 : tab.size = 256 := by rw [← hT]; decide +kernel
  have hget : ∀ i : Fin 256, (tab.get! i.val).toNat = popN 8 i.val := by rw [← hT]; decide +kernel
  clear hT
  have hix : ∀ (x : S) (w : World), x.toNat < 256 → (Instr.index 9 (.string tab) (.int .u32 (iv x))).run Tryz.prog w = .ok (.int .u8 (popN 8 x.toNat : Nat)) w := by
    intro x w hx
    have h0 : 0 ≤ iv x ∧ iv x < tab.size := by rw [h256]; unfold iv; omega
    rw [run_index_string w _ _ _ _ (by kernel_rfl), dif_pos h0]
    have e := hget ⟨x.toNat, hx⟩
    have e2 : tab[(iv x).toNat]'(by omega) = tab.get! x.toNat := by
      have : (iv x).toNat = x.toNat := by unfold iv; omega
      simp only [this]
      rw [ByteArray.get!, getElem!_pos tab.data x.toNat (by show x.toNat < tab.size; omega)]
      rfl
    rw [e2, e]
  have x0 := fun w => hix (s >>> 24) w b0
  have x1 := fun w => hix (s >>> 16 &&& 255#32) w b1
  have x2 := fun w => hix (s >>> 8 &&& 255#32) w b2
  have x3 := fun w => hix (s &&& 255#32) w b3
  clear hix hget h256 b0 b1 b2 b3
  have l0 := popN_le 8 (s >>> 24).toNat
  have l1 := popN_le 8 (s >>> 16 &&& 255#32).toNat
  have l2 := popN_le 8 (s >>> 8 &&& 255#32).toNat
  have l3 := popN_le 8 (s &&& 255#32).toNat
  generalize popN 8 (s >>> 24).toNat = n0 at *
  generalize popN 8 (s >>> 16 &&& 255#32).toNat = n1 at *
  generalize popN 8 (s >>> 8 &&& 255#32).toNat = n2 at *
  generalize popN 8 (s &&& 255#32).toNat = n3 at *
  go_wp2
  go_quiet (fail)
  go_wp2
  go_ret
  exact ⟨ret_int (by rw [hp.out]; simp), _, rfl⟩

theorem cmpInt_any (x y : Int) (w : World) :
    Calls Tryz.prog 79 #[.int .i64 x, .int .i64 y] w fun e w' => e = .returned (.int .i64 (cmpI x y)) ∧ w = w' := by
  have hx : ((x : Int) != x) = false := by simp
  have hy : ((y : Int) != y) = false := by simp
  rcases (show x < y ∨ (¬ x < y ∧ y < x) ∨ (¬ x < y ∧ ¬ y < x) by omega) with h | ⟨h1, h2⟩ | ⟨h1, h2⟩
  · have e : cmpI x y = -1 := by simp [cmpI, h]
    rw [e]; clear e
    go_enter Tryz.func79, Tryz.ntmps79
    go_wp2
    go_ret
    exact ⟨rfl, rfl⟩
  · have e : cmpI x y = 1 := by simp [cmpI, h1, h2]
    rw [e]; clear e
    go_enter Tryz.func79, Tryz.ntmps79
    go_wp2
    go_ret
    exact ⟨rfl, rfl⟩
  · have e : cmpI x y = 0 := by simp [cmpI, h1, h2]
    rw [e]; clear e
    go_enter Tryz.func79, Tryz.ntmps79
    go_wp2
    go_ret
    exact ⟨rfl, rfl⟩
theorem cmpSet_any (a b : S) (w : World) :
    Calls Tryz.prog 142 #[enc a, enc b] w fun e w' => e = .returned (.int .i64 (cmpI (iv a) (iv b))) ∧ w = w' := by
  have hx : (a != a) = false := by simp
  have hy : (b != b) = false := by simp
  unfold enc
  rcases (show iv a < iv b ∨ (¬ iv a < iv b ∧ iv b < iv a) ∨ (¬ iv a < iv b ∧ ¬ iv b < iv a) by omega) with h | ⟨h1, h2⟩ | ⟨h1, h2⟩
  · have e : cmpI (iv a) (iv b) = -1 := by simp [cmpI, h]
    rw [e]; clear e
    go_enter Tryz.func142, Tryz.ntmps142
    go_wp2
    go_ret
    exact ⟨rfl, rfl⟩
  · have e : cmpI (iv a) (iv b) = 1 := by simp [cmpI, h1, h2]
    rw [e]; clear e
    go_enter Tryz.func142, Tryz.ntmps142
    go_wp2
    go_ret
    exact ⟨rfl, rfl⟩
  · have e : cmpI (iv a) (iv b) = 0 := by simp [cmpI, h1, h2]
    rw [e]; clear e
    go_enter Tryz.func142, Tryz.ntmps142
    go_wp2
    go_ret
    exact ⟨rfl, rfl⟩

end Go.Proofs.YtgahpgmagfngfaaGreatDoor


/- The walks that make slices: Members, Size, Before, Clone. -/
namespace Go.Proofs.YtgahpgmagfngfaaGreatDoor
open Go.RowKit

theorem infoInt : (Tryz.prog.info? 3).map (fun i => (i.zero, i.size, i.bytes)) = some (some (.int .i64 0), 1, 8) := by kernel_rfl
theorem infoSet : (Tryz.prog.info? 55).map (fun i => (i.zero, i.size, i.bytes)) = some (some (.int .u32 0), 1, 4) := by kernel_rfl
theorem undInts : Tryz.prog.underlying 37 = some (.slice 3) := by kernel_rfl
theorem undSets : Tryz.prog.underlying 59 = some (.slice 55) := by kernel_rfl
def encI (n : Nat) : Value := .int .i64 n




/-- slices.Clone. -/
theorem clone_any (xs : List S) (v : Value) (w : World) (hv : RdE enc w v xs) (h44 : xs.length < 17592186044416) :
    Calls Tryz.prog 90 #[v] w fun e w' => ∃ v', e = .returned v' ∧ w'.ownsRow w.heap.size 55 1 v' xs.length (xs.map enc) ∧ Below w.heap.size w w' := by
  obtain ⟨ao, cap, rfl, h1, h2, h3⟩ := hv
  have heq := fun (a : Option Addr) (n c : Nat) (w : World) => Lib.run_eql_slice_nil (P := Tryz.prog) w 59 55 a n c 0 0 undSets
  cases ao with
  | none =>
    have hx : xs = [] := by
      cases xs with
      | nil => rfl
      | cons x l => obtain ⟨b, off, h, _⟩ := h3 (by simp); cases h
    subst hx
    clear h3
    go_enter Tryz.func90, Tryz.ntmps90
    go_wp2_with fail
    go_ret
    exact ⟨_, rfl, World.ownsRow_nil _ _ _ _, Below.refl _ _⟩
  | some a =>
    obtain ⟨i, hi, hz0, hz1, hz2⟩ := info_parts infoSet
    have hcells : ∀ (j : Nat) (u : Value), (xs.map enc)[j]? = some u → w.cell? (a.add j) = some u := by
      intro j u hu
      rw [List.getElem?_map, Option.map_eq_some_iff] at hu
      obtain ⟨x, hx, rfl⟩ := hu
      have hj : j < xs.length := (List.getElem?_eq_some_iff.1 hx).1
      obtain ⟨b, off, e, _, hc⟩ := h3 (by omega)
      cases e
      rw [Addr.add_lit]
      exact hc j x hx
    have hcells2 : ∀ (j : Nat) (u : Value), (xs.map enc)[j]? = some u → (w.alloc (.cells #[] 55)).cell? (a.add j) = some u := fun j u hu => World.cell?_alloc_lt _ _ _ (World.block_lt_of_cell? _ _ (hcells j u hu)) |>.trans (hcells j u hu)
    have HC := hid hcells2
    have hown := World.ownsRow_lit (size := 1) (e := 55) w #[] 0 (Nat.le_refl _) (Nat.zero_le _) rfl
    clear hcells hcells2 h3
    go_enter Tryz.func90, Tryz.ntmps90
    have s1 : ∀ u ∈ xs.map enc, u.oneCell' = true := by intro u hu; obtain ⟨x, _, rfl⟩ := List.mem_map.1 hu; rfl
    have S1 := hid s1
    clear s1
    go_wp2_with (at_builtin; refine wpList_append_own _ rfl _ _ 59 rfl w.heap.size 55 i (.int .u32 0) 1 4 undSets hi hz0 hz1 hz2 rfl (by decide) _ _ _ rfl hown a xs.length cap (xs.map enc) rfl (by simp) HC.out S1.out (by unfold maxLen; omega) (by omega) (by simp) ?_)
    · intro v' w1 h1' hg _
      have B : Below w.heap.size w w1 := ((Below.refl _ w).alloc (Nat.le_refl _) _).grown hg (by simp) (fun k hk => by simp [Value.ownBlock] at hk; omega)
      have BB := hid B
      clear B hg
      have H := hid h1'
      clear h1'
      go_wp2_with fail
      go_ret
      exact ⟨_, rfl, by simpa using H.out, BB.out⟩

end Go.Proofs.YtgahpgmagfngfaaGreatDoor

