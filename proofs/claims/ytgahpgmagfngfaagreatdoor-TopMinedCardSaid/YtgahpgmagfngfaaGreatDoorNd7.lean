/- The walk of indmine's miner.extend. -/
import Derived.Test.YtgahpgmagfngfaaGreatDoorGNdC
import Derived.Test.YtgahpgmagfngfaaGreatDoorGTab30
import Derived.StillTailTactics
import Derived.Deep.DeepCutAuto
namespace Go.Proofs.YtgahpgmagfngfaaGreatDoor
open Go.RowKit
set_option linter.unusedVariables false

/-- The miner behind a part of the search. -/
def ExtS (mb B : Nat) (d1 d2 : D3) (same : Bool) (room : Nat) (xs : List I6) (fv : Value) (w : World) (add : List DN) (wr : World) : Prop :=
  ∃ (fv' : Value) (xs' : List I6), Mi wr mb d1 d2 same fv' room ∧ Fnd wr B mb fv' xs' ∧ xs'.map (fun x => x.2.2) = xs.map (fun x => x.2.2) ++ add ∧ Fr mb w fv wr fv'
theorem ExtS.below {mb B : Nat} {d1 d2 : D3} {same : Bool} {room : Nat} {xs : List I6} {fv : Value} {w : World} {add : List DN} {wr w' : World} (h : ExtS mb B d1 d2 same room xs fv w add wr) (hb : Below wr.heap.size wr w') : ExtS mb B d1 d2 same room xs fv w add w' := by
  obtain ⟨f, x, h1, h2, h3, h4⟩ := h
  exact ⟨f, x, h1.below hb, h2.below hb, h3, h4.below hb⟩
theorem len_add {xs x' : List I6} {add : List DN} (h : x'.map (fun x => x.2.2) = xs.map (fun x => x.2.2) ++ add) : x'.length = xs.length + add.length := by
  have := congrArg List.length h
  simpa using this
def ExtQ (mb B : Nat) (d1 d2 : D3) (same : Bool) (room : Nat) (xs : List I6) (fv : Value) (w : World) (add : List DN) (e : Ending) (w' : World) : Prop :=
  e = .returned (.bool true) ∧ ExtS mb B d1 d2 same room xs fv w add w'
def mkDN (i k : Nat) (p : P2) : DN := (i, k, p.1, p.2)
theorem range'_at {F M A : Nat} (h1 : F ≤ A) (h2 : A < F + M) : (List.range' F M)[A - F]? = some A := by
  rw [List.getElem?_range' (by omega)]; congr 1; omega
theorem range_at' {n b : Nat} (h : b < n) : (List.range n)[b]? = some b := by rw [List.getElem?_range h]

set_option maxHeartbeats 12800000 in
set_option maxRecDepth 100000 in
theorem mext_any (mb B : Nat) (d1 d2 : D3) (i k : Nat) (same : Bool) (room : Nat) (w0 : World) (T1 : RdT w0 d1.1 d1.2.1 d1.2.2) (T2 : RdT w0 d2.1 d2.2.1 d2.2.2)
    (ok1 : RowsOk d1.2.2.2.1.length d1.2.2.2.2) (ok2 : RowsOk d2.2.2.2.1.length d2.2.2.2.2) (r2 : d2.2.2.2.2.length ≤ 6) (l1 : d1.2.2.2.1.length ≤ 3) (l2 : d2.2.2.2.1.length ≤ 3) (n1 : d1.2.2.1 = nmT i) (n2 : d2.2.2.1 = nmT k) (hB : w0.heap.size ≤ B) (hmb : B ≤ mb) (hroom : room ≤ 2000) :
    ∀ (n : Nat) (l r : List Nat) (lv rv : Value) (w : World) (fv : Value) (xs : List I6), Below w0.heap.size w0 w → Mi w mb d1 d2 same fv room → Fnd w B mb fv xs → RdE encI w lv l → RdE encI w rv r → (FarV lv (some mb) ∧ FarV lv fv.ownBlock) → (FarV rv (some mb) ∧ FarV rv fv.ownBlock) →
      Cand d1.2.2.2.1.length d2.2.2.2.1.length l r → l.length + n = 3 → xs.length + (extL (hldB d1.2.2.2.2 d2.2.2.2.2) d1.2.2.2.1.length d2.2.2.2.1.length same n l r).length ≤ room →
      Calls Tryz.prog 39 #[.pointer (some ⟨mb, 0, none⟩), lv, rv] w (ExtQ mb B d1 d2 same room xs fv w ((extL (hldB d1.2.2.2.2 d2.2.2.2.2) d1.2.2.2.1.length d2.2.2.2.1.length same n l r).map (mkDN i k))) := by
  have HO := hid (fun (fv : Value) (l r : List Nat) (lv rv : Value) (w : World) (hb : Below w0.heap.size w0 w) (hm : Mi w mb d1 d2 same fv room) (hl : RdE encI w lv l) (hr : RdE encI w rv r) (hc : Cand d1.2.2.2.1.length d2.2.2.2.1.length l r) (h3 : l.length ≤ 3) => mholds_any mb d1 d2 same fv room l r lv rv w hm (T1.below hb) (T2.below hb) hl hr ok1 ok2 hc.lt hc.rt (by omega) (by have := hc.len; omega) r2)
  obtain ⟨av1, rv1, nm1, ats1, rs1⟩ := d1
  obtain ⟨av2, rv2, nm2, ats2, rs2⟩ := d2
  obtain ⟨ao1, acap1, ha1, -⟩ := T1.1.split
  obtain ⟨ro1, rcap1, hr1, -⟩ := RdR.split T1.2
  obtain ⟨ao2, acap2, ha2, -⟩ := T2.1.split
  obtain ⟨ro2, rcap2, hr2, -⟩ := RdR.split T2.2
  simp only at ha1 hr1 ha2 hr2 n1 n2 l1 l2 HO
  subst ha1 hr1 ha2 hr2 n1 n2
  have HRM := hid hroom
  have HBB := hid (And.intro hB hmb)
  have HL1 := hid l1
  have HL2 := hid l2
  clear T1 T2 ok1 ok2 r2 hroom hB hmb
  intro n
  show ∀ (l r : List Nat) (lv rv : Value) (w : World) (fv : Value) (xs : List I6), Below w0.heap.size w0 w → Mi w mb (Value.slice ao1 ats1.length acap1, Value.slice ro1 rs1.length rcap1, nmT i, ats1, rs1) (Value.slice ao2 ats2.length acap2, Value.slice ro2 rs2.length rcap2, nmT k, ats2, rs2) same fv room → Fnd w B mb fv xs → RdE encI w lv l → RdE encI w rv r → (FarV lv (some mb) ∧ FarV lv fv.ownBlock) → (FarV rv (some mb) ∧ FarV rv fv.ownBlock) →
      Cand ats1.length ats2.length l r → l.length + n = 3 → xs.length + (extL (hldB rs1 rs2) ats1.length ats2.length same n l r).length ≤ room →
      Calls Tryz.prog 39 #[.pointer (some ⟨mb, 0, none⟩), lv, rv] w (ExtQ mb B (Value.slice ao1 ats1.length acap1, Value.slice ro1 rs1.length rcap1, nmT i, ats1, rs1) (Value.slice ao2 ats2.length acap2, Value.slice ro2 rs2.length rcap2, nmT k, ats2, rs2) same room xs fv w ((extL (hldB rs1 rs2) ats1.length ats2.length same n l r).map (mkDN i k)))
  obtain ⟨D1, hD1⟩ : ∃ D1 : D3, (Value.slice ao1 ats1.length acap1, Value.slice ro1 rs1.length rcap1, nmT i, ats1, rs1) = D1 := ⟨_, rfl⟩
  obtain ⟨D2, hD2⟩ : ∃ D2 : D3, (Value.slice ao2 ats2.length acap2, Value.slice ro2 rs2.length rcap2, nmT k, ats2, rs2) = D2 := ⟨_, rfl⟩
  rw [hD1, hD2] at HO
  rw [hD1, hD2]
  have MC := hid (fun (W : World) (fv : Value) (h : Mi W mb D1 D2 same fv room) => show ((W.cell? ⟨mb, 0, none⟩ = some (.string (nmT i)) ∧ W.cell? ⟨mb, 1, none⟩ = some (.slice ao1 ats1.length acap1)) ∧ (W.cell? ⟨mb, 3, none⟩ = some (.string (nmT k)) ∧ W.cell? ⟨mb, 4, none⟩ = some (.slice ao2 ats2.length acap2)) ∧ W.cell? ⟨mb, 6, none⟩ = some (.bool same) ∧ W.cell? ⟨mb, 7, none⟩ = some (.int .i64 3) ∧ W.cell? ⟨mb, 8, none⟩ = some fv ∧ W.cell? ⟨mb, 9, none⟩ = some (.int .i64 (room : Int)) ∧ W.frozen? ⟨mb, 8, none⟩ = false) from by
    subst hD1 hD2
    exact ⟨⟨h.c0, h.c1⟩, ⟨h.c3, h.c4⟩, h.c6, h.c7, h.c8, h.c9, h.f8⟩)
  clear hD1 hD2
  obtain ⟨N1, hN1⟩ : ∃ N1, ats1.length = N1 := ⟨_, rfl⟩
  obtain ⟨N2, hN2⟩ : ∃ N2, ats2.length = N2 := ⟨_, rfl⟩
  obtain ⟨H, hH⟩ : ∃ H : List Nat → List Nat → Bool, hldB rs1 rs2 = H := ⟨_, rfl⟩
  rw [hN1] at HL1 MC
  rw [hN2] at HL2 MC
  rw [hN1, hN2, hH] at HO
  rw [hN1, hN2, hH]
  clear hN1 hN2 hH l1 l2
  induction n with
  | zero =>
    intro l r lv rv w fv xs hb hm hf hl hr hfl hfr hc hn hlen
    have h3 : l.length = 3 := by omega
    obtain ⟨lo, lcap, hlv, -⟩ := hl.split
    rw [h3] at hlv
    subst hlv
    obtain ⟨⟨m0, m1⟩, ⟨m3, m4⟩, m6, m7, m8, m9, mf⟩ := MC.out w fv hm
    have FIN := hid (show ExtS mb B D1 D2 same room xs fv w ((extL H N1 N2 same 0 l r).map (mkDN i k)) w from ⟨fv, xs, hm, hf, by simp [extL], Fr.refl _ _ _⟩)
    clear hb hm hf hl hr hfl hfr hc hn hlen h3
    go_enter Tryz.func39, Tryz.ntmps39
    go_wp2_with fail
    go_ret
    exact ⟨rfl, FIN.out⟩
  | succ n ih =>
    intro l r lv rv w fv xs hb hm hf hl hr hfl hfr hc hn hlen
    have IH := hid ih
    clear ih
    obtain ⟨EX, hEX⟩ : ∃ EX : List Nat → List Nat → List P2, extL H N1 N2 same n = EX := ⟨_, rfl⟩
    obtain ⟨SA, hSA⟩ : ∃ SA : Nat → Nat → List P2, (fun a b => stepE H same EX l r a b) = SA := ⟨_, rfl⟩
    obtain ⟨RA, hRA⟩ : ∃ RA : Nat → List P2, (fun a => (List.range N2).flatMap (SA a)) = RA := ⟨_, rfl⟩
    obtain ⟨F, hF⟩ : ∃ F, frsN l = F := ⟨_, rfl⟩
    obtain ⟨M, hM⟩ : ∃ M, N1 - F = M := ⟨_, rfl⟩
    have TOT := hid (show extL H N1 N2 same (n + 1) l r = (List.range' F M).flatMap RA from by
      rw [extL_succ, hF, hM, hEX, ← hRA, ← hSA])
    have RAE := hid (show ∀ a, RA a = (List.range N2).flatMap (SA a) from fun a => by rw [← hRA])
    have SAE := hid (show ∀ a b, SA a b = stepE H same EX l r a b from fun a b => by rw [← hSA])
    rw [hEX] at IH
    rw [TOT.out] at hlen
    rw [TOT.out]
    have HLEN := hid hlen
    have HN := hid hn
    have HC := hid hc
    have HW := hid hb
    have HL := hid hl
    have HR := hid hr
    have HFL := hid hfl
    have HFR := hid hfr
    have HM := hid hM
    have HF := hid hF
    have S0 := hid (show ExtS mb B D1 D2 same room xs fv w [] w from ⟨fv, xs, hm, hf, by simp, Fr.refl _ _ _⟩)
    have FB := hid (show ∀ g, fv.ownBlock = some g → w0.heap.size ≤ g from fun g hg => Nat.le_trans HBB.out.1 (hf.own.lt g hg).1)
    have l3 : decide ((l.length : Int) = 3) = false := by simp; omega
    have l3b : ((l.length : Int) == 3) = false := by rw [beq_eq_false_iff_ne]; omega
    obtain ⟨⟨m0, m1⟩, ⟨m3, m4⟩, m6, m7, m8, m9, mf⟩ := MC.out w fv hm
    have M0 := hid (And.intro m1 m7)
    have pre : (l = [] ∧ F = 0) ∨ ∃ z : Nat, l[l.length - 1]? = some z ∧ F = z + 1 ∧ 0 < l.length := by
      rcases List.eq_nil_or_concat l with e | ⟨l', z, e⟩
      · exact .inl ⟨e, by rw [← hF, e]; rfl⟩
      · rw [show l'.concat z = l' ++ [z] by simp] at e
        refine .inr ⟨z, ?_, by rw [← hF, e, frsN_snoc], by rw [e]; simp⟩
        rw [e]; simp
    clear hb hm hf hfl hfr hc hn hlen hEX hSA hRA hF hM m0 m3 m4 m6 m8 m9 mf
    -- to the outer loop
    have FM := hid (show F + M = N1 from by
      have h1 : F ≤ N1 := by
        rcases pre with ⟨-, e⟩ | ⟨z, hz, e, -⟩
        · omega
        · have := HC.out.lt z (List.mem_of_getElem? hz); omega
      have := HM.out
      omega)
    rcases pre with ⟨hl0, hF0⟩ | ⟨z, hz, hFz, hpos⟩
    case' inl =>
      have SV := hid (show Value.int .i64 0 = .int .i64 (F : Int) by rw [hF0]; rfl)
      clear hF0
      obtain ⟨lo, lcap, hlv, -⟩ := hl.split
      rw [show l.length = 0 by rw [hl0]; rfl] at hlv l3 l3b
      subst hlv
      obtain ⟨qo, qcap, rfl, -⟩ := hr.split
      clear hl hr hl0
      go_enter Tryz.func39, Tryz.ntmps39
      go_wp2_with fail
    case' inr =>
      have SV := hid (show Value.int .i64 ((z : Int) + 1) = .int .i64 (F : Int) by rw [hFz]; rfl)
      clear hFz
      obtain ⟨lo, lcap, rfl, -, hcl⟩ := hl.split
      obtain ⟨qo, qcap, rfl, -⟩ := hr.split
      obtain ⟨lb, loff, rfl, hce⟩ := hcl _ z hz
      have e0 := hce w (Below.refl _ _)
      obtain ⟨q, hq⟩ : ∃ q, l.length = q + 1 := ⟨l.length - 1, by omega⟩
      have HQ := hid hq
      rw [hq] at e0 l3 l3b HL HFL
      rw [hq]
      rw [show q + 1 - 1 = q by omega] at e0
      have e1 : w.cell? ⟨lb, loff + q, none⟩ = some (.int .i64 (z : Int)) := e0
      have q3 : (q : Int) ≤ 3 := by have := HN.out; omega
      have q0 : (0 : Int) ≤ (q : Int) := by omega
      have z9 : (z : Int) ≤ 3 := by
        have h1 := HC.out.lt z (List.mem_of_getElem? hz)
        have := HL1.out
        omega
      have z0 : (0 : Int) ≤ (z : Int) := by omega
      have q4 : decide ((q : Int) + 1 = 3) = false := by simp; have := HN.out; omega
      have q5 : ((q : Int) + 1 == 3) = false := by rw [beq_eq_false_iff_ne]; have := HN.out; omega
      clear hl hr hcl hz hce e0 hq l3 l3b hpos
      go_enter Tryz.func39, Tryz.ntmps39
      go_wp2_with fail
    all_goals
      clear m1 m7
      go_loopw [8] (fun s8 wr => ∃ A : Nat, F ≤ A ∧ A ≤ F + M ∧ s8 = .int .i64 A ∧ Hid (ExtS mb B D1 D2 same room xs fv w ((((List.range' F M).take (A - F)).flatMap RA).map (mkDN i k)) wr)) (fun s8 _ => (F + M) - (intOf s8).toNat)
      case atStart => exact ⟨F, Nat.le_refl _, Nat.le_add_right _ _, SV.out, hid (by rw [Nat.sub_self, List.take_zero]; exact S0.out)⟩
      case round =>
        obtain ⟨wo, rfl⟩ : ∃ wo : World, wo = wr := ⟨_, rfl⟩
        obtain ⟨A, hA1, hA2, rfl, HS⟩ := hrel
        have HA := hid (And.intro hA1 hA2)
        have A0 : (0 : Int) ≤ (A : Int) := by omega
        have A9 : (A : Int) ≤ 3 := by have := FM.out; have := HL1.out; omega
        obtain ⟨f1, x1, M1, N1s, E1, R1⟩ := HS.out
        obtain ⟨⟨m0, m1⟩, ⟨m3, m4⟩, m6, m7, m8, m9, mf⟩ := MC.out wo f1 M1
        clear R1 M1 N1s E1
        by_cases hlt : A < N1
        · have hltI : (A : Int) < (N1 : Int) := by omega
          have RAT := hid (range'_at HA.out.1 (show A < F + M by have := FM.out; omega))
          have ROW := hid (RAE.out A)
          clear hA1 hA2
          go_wp2_with fail
          clear m0 m1 m3 m4 m6 m7 m8 m9 mf
          go_loopw [46] (fun s46 wr => ∃ b : Nat, b ≤ N2 ∧ s46 = .int .i64 b ∧ Hid (ExtS mb B D1 D2 same room xs fv w (((((List.range' F M).take (A - F)).flatMap RA ++ ((List.range N2).take b).flatMap (SA A)).map (mkDN i k))) wr)) (fun s46 _ => N2 - (intOf s46).toNat)
          case atStart => exact ⟨0, Nat.zero_le _, rfl, hid (by rw [List.take_zero, List.flatMap_nil, List.append_nil]; exact HS.out)⟩
          case round =>
            obtain ⟨wi, rfl⟩ : ∃ wi : World, wi = wr := ⟨_, rfl⟩
            obtain ⟨b, hb2, rfl, HT⟩ := hrel
            have b0 : (0 : Int) ≤ (b : Int) := by omega
            have b9 : (b : Int) ≤ 3 := by have := HL2.out; omega
            obtain ⟨f2, x2, M2, N2s, E2, R2⟩ := HT.out
            obtain ⟨⟨m0, m1⟩, ⟨m3, m4⟩, m6, m7, m8, m9, mf⟩ := MC.out wi f2 M2
            have HM2 := hid M2
            have HN2 := hid N2s
            have HE2 := hid E2
            have HR2 := hid R2
            clear M2 N2s E2 R2
            by_cases hlb : b < N2
            · have hlbI : (b : Int) < (N2 : Int) := by omega
              have RL2 := hid (HR2.out.rd HL.out HFL.out.1 HFL.out.2)
              have FL2 := hid (And.intro HFL.out.1 (HR2.out.far HL.out HFL.out.2))
              have RR2 := hid (HR2.out.rd HR.out HFR.out.1 HFR.out.2)
              have FR2 := hid (And.intro HFR.out.1 (HR2.out.far HR.out HFR.out.2))
              have BW2 := hid (show Below w0.heap.size w0 wi from HW.out.trans (HR2.out.to_below (Nat.le_trans HBB.out.1 HBB.out.2) FB.out HW.out.size))
              have SE := hid (SAE.out A b)
              have NEXT := hid (flat_take_next (List.range N2) (SA A) (range_at' hlb))
              have LL9 := hid (show l.length < 1000000 by have := HN.out; omega)
              have LR9 := hid (show r.length < 1000000 by have := HC.out.len; have := HN.out; omega)
              have IC := hid (icontains_any b r _ wi RR2.out)
              have SKIP := hid (fun (h : SA A b = []) (W : World) (hW : Below wi.heap.size wi W) => show ExtS mb B D1 D2 same room xs fv w (((((List.range' F M).take (A - F)).flatMap RA ++ ((List.range N2).take (b + 1)).flatMap (SA A)).map (mkDN i k))) W from by
                rw [NEXT.out, h, List.append_nil]; exact HT.out.below hW)
              obtain ⟨rc, hrc⟩ : ∃ rc, r.contains b = rc := ⟨_, rfl⟩
              rw [hrc] at IC
              have HRC := hid hrc
              have cs : rc = true ∨ rc = false := by cases rc <;> simp
              clear hrc
              rcases cs with rfl | rfl
              · have SK := hid (SKIP.out (by rw [SE.out]; unfold stepE; rw [HRC.out, if_pos (by simp)]))
                go_wp2_with fail
                refine IC.out.mono ?_
                rintro e w3 ⟨rfl, hb3⟩
                have S3 := hid (SK.out w3 hb3)
                clear hb3 m0 m1 m3 m4 m6 m7 m8 m9 mf
                go_wp2_with fail
                go_roundw
                case rel => exact ⟨b + 1, hlb, by go_num, S3⟩
                case measure => simp [intOf]; omega
              · have cs2 : (same = true ∧ A = b) ∨ (same = true ∧ A ≠ b) ∨ same = false := by cases same <;> simp; omega
                rcases cs2 with ⟨hsm, hab⟩ | ⟨hsm, hab⟩ | hsm
                · have SK := hid (SKIP.out (by rw [SE.out]; unfold stepE; rw [if_pos (by simp [hsm, hab])]))
                  have hI : ((A : Int) == (b : Int)) = true := by rw [beq_iff_eq, hab]
                  have HM2b := hid HM2.out
                  rw [hsm] at m6
                  clear hab
                  go_wp2_with fail
                  refine IC.out.mono ?_
                  rintro e w3 ⟨rfl, hb3⟩
                  have S3 := hid (SK.out w3 hb3)
                  have m6' := (MC.out w3 f2 (HM2.out.below hb3)).2.2.1
                  rw [hsm] at m6'
                  clear hb3 m0 m1 m3 m4 m6 m7 m8 m9 mf hsm
                  go_wp2_with fail
                  go_roundw
                  case rel => exact ⟨b + 1, hlb, by go_num, S3⟩
                  case measure => simp [intOf]; omega
                · have HSM := hid hsm
                  have HAB := hid hab
                  have hI : ((A : Int) == (b : Int)) = false := by rw [beq_eq_false_iff_ne]; omega
                  clear hsm hab
                  go_wp2_with fail
                  refine IC.out.mono ?_
                  rintro e w3 ⟨rfl, hb3⟩
                  have W3 := hid hb3
                  have RL3 := hid (RL2.out.below hb3)
                  have RR3 := hid (RR2.out.below hb3)
                  have M3 := hid (HM2.out.below hb3)
                  clear m0 m1 m3 m4 m6 m7 m8 m9 mf hb3
                  obtain ⟨⟨m0, m1⟩, ⟨m3, m4⟩, m6, m7, m8, m9, mf⟩ := MC.out w3 f2 M3.out
                  rw [HSM.out] at m6
                  go_wp2_with fail
                  refine (iclone_any l _ w3 RL3.out LL9.out).mono ?_
                  rintro e w4 ⟨v4, rfl, ho4, hb4⟩
                  have O4 := hid ho4
                  have W4 := hid hb4
                  obtain ⟨o4, c4, rfl⟩ := own_sliceG ho4
                  clear ho4 hb4 m0 m1 m3 m4 m6 m7 m8 m9 mf
                  go_wp2_with (at_builtin; refine wpList_push rfl _ _ 37 rfl w3.heap.size 3 (.int .i64 0) 8 undInts infoInt rfl (by decide) encI (fun _ => rfl) _ l rfl (O4.out.alloc _) ⟨w4.heap.size, 0, none⟩ A rfl cell_new (by have := LL9.out; omega) (by have := W4.out.size; simp; omega) ?_)
                  intro v5 w5 ho5 hg5
                  have O5 := hid (show w5.ownsRow w3.heap.size 3 1 v5 (l ++ [A]).length ((l ++ [A]).map encI) by simpa using ho5)
                  have W5 := hid (below_push W4.out W4.out.size O4.out hg5)
                  obtain ⟨o5, c5, hv5⟩ := own_sliceG O5.out
                  subst hv5
                  have RR5 := hid (RR3.out.below W5.out)
                  clear ho5 hg5
                  go_wp2_with fail
                  refine (iclone_any r _ w5 RR5.out LR9.out).mono ?_
                  rintro e w6 ⟨v6, rfl, ho6, hb6⟩
                  have O6 := hid ho6
                  have W6 := hid hb6
                  obtain ⟨o6, c6, rfl⟩ := own_sliceG ho6
                  clear ho6 hb6
                  go_wp2_with (at_builtin; refine wpList_push rfl _ _ 37 rfl w5.heap.size 3 (.int .i64 0) 8 undInts infoInt rfl (by decide) encI (fun _ => rfl) _ r rfl (O6.out.alloc _) ⟨w6.heap.size, 0, none⟩ b rfl cell_new (by have := LR9.out; omega) (by have := W6.out.size; simp; omega) ?_)
                  intro v7 w7 ho7 hg7
                  have O7 := hid (show w7.ownsRow w5.heap.size 3 1 v7 (r ++ [b]).length ((r ++ [b]).map encI) by simpa using ho7)
                  have W7 := hid (below_push W6.out W6.out.size O6.out hg7)
                  obtain ⟨o7, c7, hv7⟩ := own_sliceG O7.out
                  subst hv7
                  clear ho7 hg7
                  have W37 := hid (show Below w3.heap.size w3 w7 from W5.out.trans (W7.out.mono W5.out.size))
                  have WI7 := hid (show Below wi.heap.size wi w7 from W3.out.trans (W37.out.mono W3.out.size))
                  have Q5 := hid (show RdE encI w7 (.slice o5 (l ++ [A]).length c5) (l ++ [A]) from RdE.of_owns (own_below O5.out W7.out) (by rw [List.length_append]; have := LL9.out; simp; omega))
                  have Q7 := hid (show RdE encI w7 (.slice o7 (r ++ [b]).length c7) (r ++ [b]) from RdE.of_owns O7.out (by rw [List.length_append]; have := LR9.out; simp; omega))
                  have M7 := hid (M3.out.below W37.out)
                  have mw3 : mb < w3.heap.size := M3.out.lt
                  have f2w : ∀ j, f2.ownBlock = some j → j < wi.heap.size := fun j hj => (HN2.out.own.lt j hj).2
                  have s35 : w3.heap.size ≤ w5.heap.size := W5.out.size
                  have s13 : wi.heap.size ≤ w3.heap.size := W3.out.size
                  have FA5 := hid (show FarV (.slice o5 (l ++ [A]).length c5) (some mb) ∧ FarV (.slice o5 (l ++ [A]).length c5) f2.ownBlock from ⟨far_lo O5.out mw3, far_lo' O5.out (fun j hj => by have := f2w j hj; omega)⟩)
                  have FA7 := hid (show FarV (.slice o7 (r ++ [b]).length c7) (some mb) ∧ FarV (.slice o7 (r ++ [b]).length c7) f2.ownBlock from ⟨far_lo O7.out (by omega), far_lo' O7.out (fun j hj => by have := f2w j hj; omega)⟩)
                  have FLO := hid (show ∀ j, j < B → FarV (.slice o5 (l ++ [A]).length c5) (some j) ∧ FarV (.slice o7 (r ++ [b]).length c7) (some j) from fun j hj => ⟨far_lo O5.out (by have := HBB.out; omega), far_lo O7.out (by have := HBB.out; omega)⟩)
                  have HC2 := hid (HC.out.snoc (a := A) (b := b) (by have := HF.out; have := HA.out; omega) hlt hlb (by
                    have h := HRC.out
                    intro hm
                    have : r.contains b = true := by simpa using hm
                    rw [this] at h; cases h))
                  have H7 := hid (HO.out f2 (l ++ [A]) (r ++ [b]) _ _ w7 (BW2.out.trans (WI7.out.mono BW2.out.size)) M7.out Q5.out Q7.out HC2.out (by rw [List.length_append]; have := HN.out; simp; omega))
                  clear mw3 f2w s35 s13 O5 O7 W5 W7 W6 O6 O4 W4 RL3 RR3 RR5
                  obtain ⟨l', hl'⟩ : ∃ l', l ++ [A] = l' := ⟨_, rfl⟩
                  obtain ⟨r', hr'⟩ : ∃ r', r ++ [b] = r' := ⟨_, rfl⟩
                  rw [hl', hr'] at H7
                  rw [hl'] at Q5 FA5 HC2 FLO
                  rw [hr'] at Q7 FA7 HC2 FLO
                  rw [show l.length + 1 = (l ++ [A]).length by simp, hl', hr']
                  have SE2 := hid (show SA A b = if H l' r' = true then (l', r') :: EX l' r' else [] from by
                    rw [SE.out, ← hl', ← hr']
                    unfold stepE
                    rw [if_neg (by rw [HRC.out, HSM.out]; simp; exact HAB.out)])
                  have LL' := hid (show l'.length = l.length + 1 by rw [← hl']; simp)
                  clear hl' hr'
                  obtain ⟨hv, hhv⟩ : ∃ hv, H l' r' = hv := ⟨_, rfl⟩
                  rw [hhv] at H7 SE2
                  have cs3 : hv = true ∨ hv = false := by cases hv <;> simp
                  clear hhv
                  go_wp2_with fail
                  refine H7.out.mono ?_
                  rintro e w8 ⟨rfl, hb8⟩
                  have W8 := hid hb8
                  have WI8 := hid (WI7.out.trans (hb8.mono WI7.out.size))
                  clear hb8
                  rcases cs3 with rfl | rfl
                  · have M8 := hid (M7.out.below W8.out)
                    have N8 := hid (HN2.out.below WI8.out)
                    have R8 := hid (HR2.out.below WI8.out)
                    have Q58 := hid (Q5.out.below W8.out)
                    have Q78 := hid (Q7.out.below W8.out)
                    have SE3 := hid (show SA A b = (l', r') :: EX l' r' by rw [SE2.out, if_pos rfl])
                    have XL := hid (len_add HE2.out)
                    have LEN2 := hid (show x2.length + 1 + (EX l' r').length ≤ room from by
                      have h1 := flat_take_len (List.range' F M) RA RAT.out
                      have h2 := flat_take_len (List.range N2) (SA A) (range_at' hlb)
                      rw [← RAE.out A] at h2
                      have h3 := HLEN.out
                      have h4 := XL.out
                      rw [List.length_map, List.length_append] at h4
                      have h5 : (SA A b).length = 1 + (EX l' r').length := by rw [SE3.out, List.length_cons]; omega
                      omega)
                    obtain ⟨X, hX⟩ : ∃ X : I6, ((Value.slice o5 l'.length c5, Value.slice o7 r'.length c7, i, k, l', r') : I6) = X := ⟨_, rfl⟩
                    have XR := hid (show RdE encI w8 X.1 X.2.2.2.2.1 ∧ RdE encI w8 X.2.1 X.2.2.2.2.2 from by rw [← hX]; exact ⟨Q58.out, Q78.out⟩)
                    have XF := hid (show (FarV X.1 f2.ownBlock ∧ FarV X.2.1 f2.ownBlock) ∧ FarV X.1 (some mb) ∧ FarV X.2.1 (some mb) from by rw [← hX]; exact ⟨⟨FA5.out.2, FA7.out.2⟩, FA5.out.1, FA7.out.1⟩)
                    have XLO := hid (show ∀ j, j < B → FarV X.1 (some j) ∧ FarV X.2.1 (some j) from by rw [← hX]; exact FLO.out)
                    have XD := hid (show X.2.2 = mkDN i k (l', r') from by rw [← hX]; rfl)
                    have CN := hid (show ∀ (W : World) (t : TypeId) (j : Nat) (u : Value), (cI X)[j]? = some u → (W.alloc (.cells #[.string (nmT i), .slice o5 l'.length c5, .string (nmT k), .slice o7 r'.length c7] t)).cell? (Addr.add ⟨W.heap.size, 0, none⟩ j) = some u from fun W t => by rw [← hX]; exact cells_newI W _)
                    have ONE := hid (show ∀ u ∈ cI X, u.oneCell' = true from by rw [← hX]; exact cI_one rfl rfl)
                    obtain ⟨fo, fcap, hff⟩ := own_shape N8.out.own
                    have hmw : mb < w8.heap.size := M8.out.lt
                    have HMW := hid hmw
                    have X9 := hid (show x2.length < 1000000 by have := LEN2.out; have := HRM.out; omega)
                    have BW8 := hid (show B ≤ (w8.drew.alloc (.cells #[.string (nmT i), .slice o5 l'.length c5, .string (nmT k), .slice o7 r'.length c7] 39)).heap.size from by have := HBB.out; simp; omega)
                    have NE2 := hid (show some mb ≠ f2.ownBlock from fun e => HN2.out.ne e.symm)
                    have BA := hid (show Below w8.heap.size w8 (w8.drew.alloc (.cells #[.string (nmT i), .slice o5 l'.length c5, .string (nmT k), .slice o7 r'.length c7] 39)) from (Below.refl _ _).drew.alloc (by simp) _)
                    have NA := hid (N8.out.below BA.out)
                    have MA := hid (M8.out.below BA.out)
                    obtain ⟨⟨m0, m1⟩, ⟨m3, m4⟩, m6, m7, m8, m9, mf⟩ := MC.out w8 f2 M8.out
                    have AA := hid (MC.out _ f2 MA.out)
                    have HFF := hid hff
                    rw [hff] at m8
                    have OW8 := hid (show (w8.drew.alloc (.cells #[.string (nmT i), .slice o5 l'.length c5, .string (nmT k), .slice o7 r'.length c7] 39)).ownsRow B 39 4 (.slice fo x2.length fcap) x2.length (x2.flatMap cI) from by rw [← hff]; exact NA.out.own)
                    clear hmw hff hX
                    have ST := hid (fun (v9 : Value) (w9 : World) (ho : w9.ownsRow B 39 4 v9 (x2 ++ [X]).length ((x2 ++ [X]).flatMap cI)) (hg : (w8.drew.alloc (.cells #[.string (nmT i), .slice o5 l'.length c5, .string (nmT k), .slice o7 r'.length c7] 39)).grownBy w9 f2.ownBlock) (hv : v9.ownBlock = f2.ownBlock ∨ v9.ownBlock = some (w8.drew.alloc (.cells #[.string (nmT i), .slice o5 l'.length c5, .string (nmT k), .slice o7 r'.length c7] 39)).heap.size) => And.intro (NA.out.push ⟨XR.out.1.below BA.out, XR.out.2.below BA.out⟩ XF.out ho hg hv (Nat.lt_of_lt_of_le HMW.out BA.out.size) XLO.out) (MA.out.set (fv' := v9) hg HN2.out.ne))
                    have FX := hid (show (Value.slice fo x2.length fcap).ownBlock = f2.ownBlock by rw [HFF.out])
                    have AA2 := hid (MC.out _ f2 (M8.out.below (below_alloc w8 (.cells #[.string (nmT i), .slice o5 l'.length c5, .string (nmT k), .slice o7 r'.length c7] 39))))
                    obtain ⟨⟨a0, a1⟩, ⟨a3, a4⟩, a6, a7, a8, a9, af⟩ := AA2.out
                    rw [HFF.out] at a8
                    go_upto_region 15 with fail
                    go_cut [9] (fun s9 wx => s9 = .int .i64 (b : Int) ∧ ExtS mb B D1 D2 same room x2 f2 w8 [mkDN i k (l', r')] wx)
                    case first =>
                      go_region_law (first
                        | ((refine step_pushW (by rfl) _ _ 33 (by rfl) B 39 (.agg #[.string (ByteArray.mk #[]), .slice none 0 0, .string (ByteArray.mk #[]), .slice none 0 0]) 4 80 undINDs infoIND rfl (by decide) (by decide) cI cI_length (.slice fo x2.length fcap) x2 (by rfl) OW8.out ⟨w8.heap.size, 0, none⟩ X ONE.out (by rfl) (CN.out w8.drew _) X9.out BW8.out ?_; intro v9 w9 ho9 hg9 hv9; obtain ⟨o9, c9, rfl⟩ := own_shape ho9; rw [FX.out] at hg9 hv9; have g8 := (hg9.cell_far ⟨mb, 8, none⟩ (Nat.lt_of_lt_of_le HMW.out BA.out.size) NE2.out).trans a8; have gf := (hg9.frozen_far ⟨mb, 8, none⟩ (Nat.lt_of_lt_of_le HMW.out BA.out.size) NE2.out).trans af)))
                      all_goals
                        obtain ⟨h9a, h9b⟩ := ST.out _ w9 ho9 hg9 hv9
                        have ES := hid (show ExtS mb B D1 D2 same room x2 f2 w8 [mkDN i k (l', r')] (w9.setCell ⟨mb, 8, none⟩ (.slice o9 (x2 ++ [X]).length c9)) from ⟨_, _, h9b, h9a.1, by rw [List.map_append, ← XD.out]; rfl, (Fr.of_below BA.out).trans h9a.2⟩)
                        clear h9a h9b ho9 hg9 hv9 g8 gf
                        go_wp2_with fail
                        go_meet
                        exact ⟨rfl, by simpa using ES.out⟩
                    case rest =>
                      obtain ⟨w9, rfl⟩ : ∃ w9 : World, w9 = wc := ⟨_, rfl⟩
                      obtain ⟨rfl, hex⟩ := hcut
                      obtain ⟨f9, x9, M9, N9, E9, R9⟩ := hex
                      have M9h := hid M9
                      have N9h := hid N9
                      have E9h := hid E9
                      have R9h := hid R9
                      have L9 := hid (show x9.length = x2.length + 1 from by have := len_add E9; simpa using this)
                      have Q59 := hid (R9.rd Q58.out FA5.out.1 FA5.out.2)
                      have Q79 := hid (R9.rd Q78.out FA7.out.1 FA7.out.2)
                      have G5 := hid (show FarV (.slice o5 l'.length c5) (some mb) ∧ FarV (.slice o5 l'.length c5) f9.ownBlock from ⟨FA5.out.1, R9.far Q58.out FA5.out.2⟩)
                      have G7 := hid (show FarV (.slice o7 r'.length c7) (some mb) ∧ FarV (.slice o7 r'.length c7) f9.ownBlock from ⟨FA7.out.1, R9.far Q78.out FA7.out.2⟩)
                      have BW9 := hid (show Below w0.heap.size w0 w9 from (BW2.out.trans (WI8.out.mono BW2.out.size)).trans (R9.to_below (Nat.le_trans HBB.out.1 HBB.out.2) (fun g hg => Nat.le_trans HBB.out.1 (HN2.out.own.lt g hg).1) (Nat.le_trans BW2.out.size WI8.out.size)))
                      have DR := hid (show Below w9.heap.size w9 w9.drew from (Below.refl _ _).drew)
                      have IHc := hid (IH.out l' r' _ _ w9.drew f9 x9 (BW9.out.trans (DR.out.mono BW9.out.size)) (M9.below DR.out) (N9.below DR.out) (Q59.out.below DR.out) (Q79.out.below DR.out) G5.out G7.out HC2.out (by have h1 := LL'.out; have h2 := HN.out; omega) (by have h1 := LEN2.out; have h2 := L9.out; omega))
                      obtain ⟨o9, c9, hf9⟩ := own_shape N9.own
                      have HF9 := hid hf9
                      obtain ⟨⟨m0, m1⟩, ⟨m3, m4⟩, m6, m7, m8, m9, mf⟩ := MC.out w9 f9 M9
                      rw [hf9] at m8
                      have gt1 : decide ((x9.length : Int) > (room : Int)) = false := by have h1 := LEN2.out; have h2 := L9.out; simp; omega
                      have gt3 : decide (room < x9.length) = false := by have h1 := LEN2.out; have h2 := L9.out; simp; omega
                      have gt4 : x9.length ≤ room := by have h1 := LEN2.out; have h2 := L9.out; omega
                      have gt2 : ¬ ((x9.length : Int) > (room : Int)) := by have h1 := LEN2.out; have h2 := L9.out; omega
                      clear M9 N9 E9 R9 hf9
                      go_wp2_with fail
                      go_still_tail 14, (by kernel_rfl)
                      change wpList _ _ _ _ _ w9.drew
                      go_wp2_with fail
                      refine IHc.out.mono ?_
                      rintro e w10 ⟨rfl, hex⟩
                      obtain ⟨f10, x10, M10, N10, E10, R10⟩ := hex
                      have FIN := hid (show ExtS mb B D1 D2 same room xs fv w (((((List.range' F M).take (A - F)).flatMap RA ++ ((List.range N2).take (b + 1)).flatMap (SA A)).map (mkDN i k))) w10 from ⟨f10, x10, M10, N10, by
                        rw [E10, E9h.out, HE2.out, NEXT.out, SE3.out]
                        simp [List.map_append], ((HR2.out.below WI8.out).trans R9h.out).trans ((Fr.of_below DR.out).trans R10)⟩)
                      clear M10 N10 E10 R10 m0 m1 m3 m4 m6 m7 m8 m9 mf
                      go_wp2_with fail
                      go_roundw
                      case rel => exact ⟨b + 1, hlb, by go_num, FIN⟩
                      case measure => simp [intOf]; omega
                  · have S8 := hid (SKIP.out (by rw [SE2.out, if_neg (by simp)]) w8 WI8.out)
                    go_wp2_with fail
                    go_roundw
                    case rel => exact ⟨b + 1, hlb, by go_num, S8⟩
                    case measure => simp [intOf]; omega
                · have HSM := hid hsm
                  clear hsm
                  go_wp2_with fail
                  refine IC.out.mono ?_
                  rintro e w3 ⟨rfl, hb3⟩
                  have W3 := hid hb3
                  have RL3 := hid (RL2.out.below hb3)
                  have RR3 := hid (RR2.out.below hb3)
                  have M3 := hid (HM2.out.below hb3)
                  clear m0 m1 m3 m4 m6 m7 m8 m9 mf hb3
                  obtain ⟨⟨m0, m1⟩, ⟨m3, m4⟩, m6, m7, m8, m9, mf⟩ := MC.out w3 f2 M3.out
                  rw [HSM.out] at m6
                  go_wp2_with fail
                  refine (iclone_any l _ w3 RL3.out LL9.out).mono ?_
                  rintro e w4 ⟨v4, rfl, ho4, hb4⟩
                  have O4 := hid ho4
                  have W4 := hid hb4
                  obtain ⟨o4, c4, rfl⟩ := own_sliceG ho4
                  clear ho4 hb4 m0 m1 m3 m4 m6 m7 m8 m9 mf
                  go_wp2_with (at_builtin; refine wpList_push rfl _ _ 37 rfl w3.heap.size 3 (.int .i64 0) 8 undInts infoInt rfl (by decide) encI (fun _ => rfl) _ l rfl (O4.out.alloc _) ⟨w4.heap.size, 0, none⟩ A rfl cell_new (by have := LL9.out; omega) (by have := W4.out.size; simp; omega) ?_)
                  intro v5 w5 ho5 hg5
                  have O5 := hid (show w5.ownsRow w3.heap.size 3 1 v5 (l ++ [A]).length ((l ++ [A]).map encI) by simpa using ho5)
                  have W5 := hid (below_push W4.out W4.out.size O4.out hg5)
                  obtain ⟨o5, c5, hv5⟩ := own_sliceG O5.out
                  subst hv5
                  have RR5 := hid (RR3.out.below W5.out)
                  clear ho5 hg5
                  go_wp2_with fail
                  refine (iclone_any r _ w5 RR5.out LR9.out).mono ?_
                  rintro e w6 ⟨v6, rfl, ho6, hb6⟩
                  have O6 := hid ho6
                  have W6 := hid hb6
                  obtain ⟨o6, c6, rfl⟩ := own_sliceG ho6
                  clear ho6 hb6
                  go_wp2_with (at_builtin; refine wpList_push rfl _ _ 37 rfl w5.heap.size 3 (.int .i64 0) 8 undInts infoInt rfl (by decide) encI (fun _ => rfl) _ r rfl (O6.out.alloc _) ⟨w6.heap.size, 0, none⟩ b rfl cell_new (by have := LR9.out; omega) (by have := W6.out.size; simp; omega) ?_)
                  intro v7 w7 ho7 hg7
                  have O7 := hid (show w7.ownsRow w5.heap.size 3 1 v7 (r ++ [b]).length ((r ++ [b]).map encI) by simpa using ho7)
                  have W7 := hid (below_push W6.out W6.out.size O6.out hg7)
                  obtain ⟨o7, c7, hv7⟩ := own_sliceG O7.out
                  subst hv7
                  clear ho7 hg7
                  have W37 := hid (show Below w3.heap.size w3 w7 from W5.out.trans (W7.out.mono W5.out.size))
                  have WI7 := hid (show Below wi.heap.size wi w7 from W3.out.trans (W37.out.mono W3.out.size))
                  have Q5 := hid (show RdE encI w7 (.slice o5 (l ++ [A]).length c5) (l ++ [A]) from RdE.of_owns (own_below O5.out W7.out) (by rw [List.length_append]; have := LL9.out; simp; omega))
                  have Q7 := hid (show RdE encI w7 (.slice o7 (r ++ [b]).length c7) (r ++ [b]) from RdE.of_owns O7.out (by rw [List.length_append]; have := LR9.out; simp; omega))
                  have M7 := hid (M3.out.below W37.out)
                  have mw3 : mb < w3.heap.size := M3.out.lt
                  have f2w : ∀ j, f2.ownBlock = some j → j < wi.heap.size := fun j hj => (HN2.out.own.lt j hj).2
                  have s35 : w3.heap.size ≤ w5.heap.size := W5.out.size
                  have s13 : wi.heap.size ≤ w3.heap.size := W3.out.size
                  have FA5 := hid (show FarV (.slice o5 (l ++ [A]).length c5) (some mb) ∧ FarV (.slice o5 (l ++ [A]).length c5) f2.ownBlock from ⟨far_lo O5.out mw3, far_lo' O5.out (fun j hj => by have := f2w j hj; omega)⟩)
                  have FA7 := hid (show FarV (.slice o7 (r ++ [b]).length c7) (some mb) ∧ FarV (.slice o7 (r ++ [b]).length c7) f2.ownBlock from ⟨far_lo O7.out (by omega), far_lo' O7.out (fun j hj => by have := f2w j hj; omega)⟩)
                  have FLO := hid (show ∀ j, j < B → FarV (.slice o5 (l ++ [A]).length c5) (some j) ∧ FarV (.slice o7 (r ++ [b]).length c7) (some j) from fun j hj => ⟨far_lo O5.out (by have := HBB.out; omega), far_lo O7.out (by have := HBB.out; omega)⟩)
                  have HC2 := hid (HC.out.snoc (a := A) (b := b) (by have := HF.out; have := HA.out; omega) hlt hlb (by
                    have h := HRC.out
                    intro hm
                    have : r.contains b = true := by simpa using hm
                    rw [this] at h; cases h))
                  have H7 := hid (HO.out f2 (l ++ [A]) (r ++ [b]) _ _ w7 (BW2.out.trans (WI7.out.mono BW2.out.size)) M7.out Q5.out Q7.out HC2.out (by rw [List.length_append]; have := HN.out; simp; omega))
                  clear mw3 f2w s35 s13 O5 O7 W5 W7 W6 O6 O4 W4 RL3 RR3 RR5
                  obtain ⟨l', hl'⟩ : ∃ l', l ++ [A] = l' := ⟨_, rfl⟩
                  obtain ⟨r', hr'⟩ : ∃ r', r ++ [b] = r' := ⟨_, rfl⟩
                  rw [hl', hr'] at H7
                  rw [hl'] at Q5 FA5 HC2 FLO
                  rw [hr'] at Q7 FA7 HC2 FLO
                  rw [show l.length + 1 = (l ++ [A]).length by simp, hl', hr']
                  have SE2 := hid (show SA A b = if H l' r' = true then (l', r') :: EX l' r' else [] from by
                    rw [SE.out, ← hl', ← hr']
                    unfold stepE
                    rw [if_neg (by rw [HRC.out, HSM.out]; simp)])
                  have LL' := hid (show l'.length = l.length + 1 by rw [← hl']; simp)
                  clear hl' hr'
                  obtain ⟨hv, hhv⟩ : ∃ hv, H l' r' = hv := ⟨_, rfl⟩
                  rw [hhv] at H7 SE2
                  have cs3 : hv = true ∨ hv = false := by cases hv <;> simp
                  clear hhv
                  go_wp2_with fail
                  refine H7.out.mono ?_
                  rintro e w8 ⟨rfl, hb8⟩
                  have W8 := hid hb8
                  have WI8 := hid (WI7.out.trans (hb8.mono WI7.out.size))
                  clear hb8
                  rcases cs3 with rfl | rfl
                  · have M8 := hid (M7.out.below W8.out)
                    have N8 := hid (HN2.out.below WI8.out)
                    have R8 := hid (HR2.out.below WI8.out)
                    have Q58 := hid (Q5.out.below W8.out)
                    have Q78 := hid (Q7.out.below W8.out)
                    have SE3 := hid (show SA A b = (l', r') :: EX l' r' by rw [SE2.out, if_pos rfl])
                    have XL := hid (len_add HE2.out)
                    have LEN2 := hid (show x2.length + 1 + (EX l' r').length ≤ room from by
                      have h1 := flat_take_len (List.range' F M) RA RAT.out
                      have h2 := flat_take_len (List.range N2) (SA A) (range_at' hlb)
                      rw [← RAE.out A] at h2
                      have h3 := HLEN.out
                      have h4 := XL.out
                      rw [List.length_map, List.length_append] at h4
                      have h5 : (SA A b).length = 1 + (EX l' r').length := by rw [SE3.out, List.length_cons]; omega
                      omega)
                    obtain ⟨X, hX⟩ : ∃ X : I6, ((Value.slice o5 l'.length c5, Value.slice o7 r'.length c7, i, k, l', r') : I6) = X := ⟨_, rfl⟩
                    have XR := hid (show RdE encI w8 X.1 X.2.2.2.2.1 ∧ RdE encI w8 X.2.1 X.2.2.2.2.2 from by rw [← hX]; exact ⟨Q58.out, Q78.out⟩)
                    have XF := hid (show (FarV X.1 f2.ownBlock ∧ FarV X.2.1 f2.ownBlock) ∧ FarV X.1 (some mb) ∧ FarV X.2.1 (some mb) from by rw [← hX]; exact ⟨⟨FA5.out.2, FA7.out.2⟩, FA5.out.1, FA7.out.1⟩)
                    have XLO := hid (show ∀ j, j < B → FarV X.1 (some j) ∧ FarV X.2.1 (some j) from by rw [← hX]; exact FLO.out)
                    have XD := hid (show X.2.2 = mkDN i k (l', r') from by rw [← hX]; rfl)
                    have CN := hid (show ∀ (W : World) (t : TypeId) (j : Nat) (u : Value), (cI X)[j]? = some u → (W.alloc (.cells #[.string (nmT i), .slice o5 l'.length c5, .string (nmT k), .slice o7 r'.length c7] t)).cell? (Addr.add ⟨W.heap.size, 0, none⟩ j) = some u from fun W t => by rw [← hX]; exact cells_newI W _)
                    have ONE := hid (show ∀ u ∈ cI X, u.oneCell' = true from by rw [← hX]; exact cI_one rfl rfl)
                    obtain ⟨fo, fcap, hff⟩ := own_shape N8.out.own
                    have hmw : mb < w8.heap.size := M8.out.lt
                    have HMW := hid hmw
                    have X9 := hid (show x2.length < 1000000 by have := LEN2.out; have := HRM.out; omega)
                    have BW8 := hid (show B ≤ (w8.drew.alloc (.cells #[.string (nmT i), .slice o5 l'.length c5, .string (nmT k), .slice o7 r'.length c7] 39)).heap.size from by have := HBB.out; simp; omega)
                    have NE2 := hid (show some mb ≠ f2.ownBlock from fun e => HN2.out.ne e.symm)
                    have BA := hid (show Below w8.heap.size w8 (w8.drew.alloc (.cells #[.string (nmT i), .slice o5 l'.length c5, .string (nmT k), .slice o7 r'.length c7] 39)) from (Below.refl _ _).drew.alloc (by simp) _)
                    have NA := hid (N8.out.below BA.out)
                    have MA := hid (M8.out.below BA.out)
                    obtain ⟨⟨m0, m1⟩, ⟨m3, m4⟩, m6, m7, m8, m9, mf⟩ := MC.out w8 f2 M8.out
                    have AA := hid (MC.out _ f2 MA.out)
                    have HFF := hid hff
                    rw [hff] at m8
                    have OW8 := hid (show (w8.drew.alloc (.cells #[.string (nmT i), .slice o5 l'.length c5, .string (nmT k), .slice o7 r'.length c7] 39)).ownsRow B 39 4 (.slice fo x2.length fcap) x2.length (x2.flatMap cI) from by rw [← hff]; exact NA.out.own)
                    clear hmw hff hX
                    have ST := hid (fun (v9 : Value) (w9 : World) (ho : w9.ownsRow B 39 4 v9 (x2 ++ [X]).length ((x2 ++ [X]).flatMap cI)) (hg : (w8.drew.alloc (.cells #[.string (nmT i), .slice o5 l'.length c5, .string (nmT k), .slice o7 r'.length c7] 39)).grownBy w9 f2.ownBlock) (hv : v9.ownBlock = f2.ownBlock ∨ v9.ownBlock = some (w8.drew.alloc (.cells #[.string (nmT i), .slice o5 l'.length c5, .string (nmT k), .slice o7 r'.length c7] 39)).heap.size) => And.intro (NA.out.push ⟨XR.out.1.below BA.out, XR.out.2.below BA.out⟩ XF.out ho hg hv (Nat.lt_of_lt_of_le HMW.out BA.out.size) XLO.out) (MA.out.set (fv' := v9) hg HN2.out.ne))
                    have FX := hid (show (Value.slice fo x2.length fcap).ownBlock = f2.ownBlock by rw [HFF.out])
                    have AA2 := hid (MC.out _ f2 (M8.out.below (below_alloc w8 (.cells #[.string (nmT i), .slice o5 l'.length c5, .string (nmT k), .slice o7 r'.length c7] 39))))
                    obtain ⟨⟨a0, a1⟩, ⟨a3, a4⟩, a6, a7, a8, a9, af⟩ := AA2.out
                    rw [HFF.out] at a8
                    go_upto_region 15 with fail
                    go_cut [9] (fun s9 wx => s9 = .int .i64 (b : Int) ∧ ExtS mb B D1 D2 same room x2 f2 w8 [mkDN i k (l', r')] wx)
                    case first =>
                      go_region_law (first
                        | ((refine step_pushW (by rfl) _ _ 33 (by rfl) B 39 (.agg #[.string (ByteArray.mk #[]), .slice none 0 0, .string (ByteArray.mk #[]), .slice none 0 0]) 4 80 undINDs infoIND rfl (by decide) (by decide) cI cI_length (.slice fo x2.length fcap) x2 (by rfl) OW8.out ⟨w8.heap.size, 0, none⟩ X ONE.out (by rfl) (CN.out w8.drew _) X9.out BW8.out ?_; intro v9 w9 ho9 hg9 hv9; obtain ⟨o9, c9, rfl⟩ := own_shape ho9; rw [FX.out] at hg9 hv9; have g8 := (hg9.cell_far ⟨mb, 8, none⟩ (Nat.lt_of_lt_of_le HMW.out BA.out.size) NE2.out).trans a8; have gf := (hg9.frozen_far ⟨mb, 8, none⟩ (Nat.lt_of_lt_of_le HMW.out BA.out.size) NE2.out).trans af)))
                      all_goals
                        obtain ⟨h9a, h9b⟩ := ST.out _ w9 ho9 hg9 hv9
                        have ES := hid (show ExtS mb B D1 D2 same room x2 f2 w8 [mkDN i k (l', r')] (w9.setCell ⟨mb, 8, none⟩ (.slice o9 (x2 ++ [X]).length c9)) from ⟨_, _, h9b, h9a.1, by rw [List.map_append, ← XD.out]; rfl, (Fr.of_below BA.out).trans h9a.2⟩)
                        clear h9a h9b ho9 hg9 hv9 g8 gf
                        go_wp2_with fail
                        go_meet
                        exact ⟨rfl, by simpa using ES.out⟩
                    case rest =>
                      obtain ⟨w9, rfl⟩ : ∃ w9 : World, w9 = wc := ⟨_, rfl⟩
                      obtain ⟨rfl, hex⟩ := hcut
                      obtain ⟨f9, x9, M9, N9, E9, R9⟩ := hex
                      have M9h := hid M9
                      have N9h := hid N9
                      have E9h := hid E9
                      have R9h := hid R9
                      have L9 := hid (show x9.length = x2.length + 1 from by have := len_add E9; simpa using this)
                      have Q59 := hid (R9.rd Q58.out FA5.out.1 FA5.out.2)
                      have Q79 := hid (R9.rd Q78.out FA7.out.1 FA7.out.2)
                      have G5 := hid (show FarV (.slice o5 l'.length c5) (some mb) ∧ FarV (.slice o5 l'.length c5) f9.ownBlock from ⟨FA5.out.1, R9.far Q58.out FA5.out.2⟩)
                      have G7 := hid (show FarV (.slice o7 r'.length c7) (some mb) ∧ FarV (.slice o7 r'.length c7) f9.ownBlock from ⟨FA7.out.1, R9.far Q78.out FA7.out.2⟩)
                      have BW9 := hid (show Below w0.heap.size w0 w9 from (BW2.out.trans (WI8.out.mono BW2.out.size)).trans (R9.to_below (Nat.le_trans HBB.out.1 HBB.out.2) (fun g hg => Nat.le_trans HBB.out.1 (HN2.out.own.lt g hg).1) (Nat.le_trans BW2.out.size WI8.out.size)))
                      have DR := hid (show Below w9.heap.size w9 w9.drew from (Below.refl _ _).drew)
                      have IHc := hid (IH.out l' r' _ _ w9.drew f9 x9 (BW9.out.trans (DR.out.mono BW9.out.size)) (M9.below DR.out) (N9.below DR.out) (Q59.out.below DR.out) (Q79.out.below DR.out) G5.out G7.out HC2.out (by have h1 := LL'.out; have h2 := HN.out; omega) (by have h1 := LEN2.out; have h2 := L9.out; omega))
                      obtain ⟨o9, c9, hf9⟩ := own_shape N9.own
                      have HF9 := hid hf9
                      obtain ⟨⟨m0, m1⟩, ⟨m3, m4⟩, m6, m7, m8, m9, mf⟩ := MC.out w9 f9 M9
                      rw [hf9] at m8
                      have gt1 : decide ((x9.length : Int) > (room : Int)) = false := by have h1 := LEN2.out; have h2 := L9.out; simp; omega
                      have gt3 : decide (room < x9.length) = false := by have h1 := LEN2.out; have h2 := L9.out; simp; omega
                      have gt4 : x9.length ≤ room := by have h1 := LEN2.out; have h2 := L9.out; omega
                      have gt2 : ¬ ((x9.length : Int) > (room : Int)) := by have h1 := LEN2.out; have h2 := L9.out; omega
                      clear M9 N9 E9 R9 hf9
                      go_wp2_with fail
                      go_still_tail 14, (by kernel_rfl)
                      change wpList _ _ _ _ _ w9.drew
                      go_wp2_with fail
                      refine IHc.out.mono ?_
                      rintro e w10 ⟨rfl, hex⟩
                      obtain ⟨f10, x10, M10, N10, E10, R10⟩ := hex
                      have FIN := hid (show ExtS mb B D1 D2 same room xs fv w (((((List.range' F M).take (A - F)).flatMap RA ++ ((List.range N2).take (b + 1)).flatMap (SA A)).map (mkDN i k))) w10 from ⟨f10, x10, M10, N10, by
                        rw [E10, E9h.out, HE2.out, NEXT.out, SE3.out]
                        simp [List.map_append], ((HR2.out.below WI8.out).trans R9h.out).trans ((Fr.of_below DR.out).trans R10)⟩)
                      clear M10 N10 E10 R10 m0 m1 m3 m4 m6 m7 m8 m9 mf
                      go_wp2_with fail
                      go_roundw
                      case rel => exact ⟨b + 1, hlb, by go_num, FIN⟩
                      case measure => simp [intOf]; omega
                  · have S8 := hid (SKIP.out (by rw [SE2.out, if_neg (by simp)]) w8 WI8.out)
                    go_wp2_with fail
                    go_roundw
                    case rel => exact ⟨b + 1, hlb, by go_num, S8⟩
                    case measure => simp [intOf]; omega
            · have hlbI : ¬ (b : Int) < (N2 : Int) := by omega
              have FIN := hid (show ExtS mb B D1 D2 same room xs fv w ((((List.range' F M).take (A + 1 - F)).flatMap RA).map (mkDN i k)) wi from by
                have h1 := HT.out
                rw [List.take_of_length_le (show (List.range N2).length ≤ b by rw [List.length_range]; omega), ← RAE.out A] at h1
                have h2 := flat_take_next (List.range' F M) RA RAT.out
                rw [show A - F + 1 = A + 1 - F by have := HA.out; omega] at h2
                rw [h2]
                exact h1)
              go_wp2_with fail
              go_roundw
              case rel => exact ⟨A + 1, by have := HA.out; omega, by have := FM.out; omega, by go_num, FIN⟩
              case measure => have := FM.out; simp [intOf]; omega
        · have hltI : ¬ (A : Int) < (N1 : Int) := by omega
          have FIN := hid (show ExtS mb B D1 D2 same room xs fv w (((List.range' F M).flatMap RA).map (mkDN i k)) wo from by
            have h1 := HS.out
            rwa [List.take_of_length_le (show (List.range' F M).length ≤ A - F by rw [List.length_range']; have := FM.out; omega)] at h1)
          go_wp2_with fail
          go_ret
          exact ⟨rfl, FIN.out⟩

end Go.Proofs.YtgahpgmagfngfaaGreatDoor
