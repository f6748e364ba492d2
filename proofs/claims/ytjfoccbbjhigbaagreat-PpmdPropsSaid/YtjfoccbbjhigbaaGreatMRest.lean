/- Contract: the model begins anew (layer 17). No condition but that numbers fit. -/
import Derived.Test.YtjfoccbbjhigbaaGreatMTurn
namespace Go.Proofs.YtjfoccbbjhigbaaGreat
open Go.RowKit

theorem rest_cells {a : Ar} (hs : 2048 ≤ a.size) (hs2 : a.size ≤ 65536) : a.restart.high = a.size + 1 ∧ 12 ≤ a.restart.high ∧ a.restart.high - 12 ≠ a.restart.low ∧ a.restart.high ≠ a.restart.low ∧ a.restart.low + 1536 ≤ a.restart.high - 12 ∧ 1 ≤ a.restart.low := by
  show a.size + 1 = a.size + 1 ∧ 12 ≤ a.size + 1 ∧ a.size + 1 - 12 ≠ a.size + 1 - a.size / 8 / 12 * 7 * 12 ∧ a.size + 1 ≠ a.size + 1 - a.size / 8 / 12 * 7 * 12 ∧ a.size + 1 - a.size / 8 / 12 * 7 * 12 + 1536 ≤ a.size + 1 - 12 ∧ 1 ≤ a.size + 1 - a.size / 8 / 12 * 7 * 12
  omega
theorem restart_fit {a : Ar} (h : a.Fit) : a.restart.Fit := by
  have h1 := h.size
  have h2 := h.len
  refine ⟨h1, h2, ?_, ?_, ?_, ?_, ?_⟩
  · show 1 ≤ _; omega
  · show a.size + 1 - _ ≤ _; omega
  · show a.size + 1 - _ ≤ _; omega
  · show a.size + 1 ≤ _; omega
  · show 0 < _; omega
theorem or_256 (k : Nat) (hk : k < 256) : bits BinOp.or IntKind.i64 (k : Int) 256 = (k : Int) + 256 := by
  have h := or_i64 k 256 (by omega) (by omega)
  have e : k ||| 256 = k + 256 := by
    have := or_high k 1 8 (by omega)
    simpa using this
  rw [e] at h
  exact h
/-- q of the binary numbers laid. -/
def Mo.bins (m : Mo) (q : Nat) : Mo := { m with bn := fun j => if j < q then binT j else m.bn j }
/-- q of the estimates laid. -/
def Mo.ests (m : Mo) (q : Nat) : Mo := { m with es := fun e => if e < q then (5 * (e / 16) + 10) * 8 else m.es e, eh := fun e => if e < q then 3 else m.eh e, ec := fun e => if e < q then 4 else m.ec e }
theorem Mo.bins_zero (m : Mo) : m.bins 0 = m := by
  simp [Mo.bins]
theorem Mo.ests_zero (m : Mo) : m.ests 0 = m := by
  simp [Mo.ests]
theorem upd2_below {f g : Nat → Nat} (q : Nat) : upd2 (fun j => if j < q then g j else f j) q (g q) = fun j => if j < q + 1 then g j else f j := by
  funext j
  unfold upd2
  by_cases e : j = q
  · subst e
    simp
  · by_cases h : j < q
    · simp [e, h, Nat.lt_succ_of_lt h]
    · simp [e, h, show ¬ j < q + 1 from by omega]
theorem Mo.bins_succ (m : Mo) (q : Nat) : { m.bins q with bn := upd2 (m.bins q).bn q (binT q) } = m.bins (q + 1) := by
  unfold Mo.bins
  simp only [upd2_below]
theorem Mo.ests_succ (m : Mo) (q : Nat) : { m.ests q with es := upd2 (m.ests q).es q ((5 * (q / 16) + 10) * 8), eh := upd2 (m.ests q).eh q 3, ec := upd2 (m.ests q).ec q 4 } = m.ests (q + 1) := by
  unfold Mo.ests
  have h1 := upd2_below (f := m.es) (g := fun e => (5 * (e / 16) + 10) * 8) q
  have h2 := upd2_below (f := m.eh) (g := fun _ => 3) q
  have h3 := upd2_below (f := m.ec) (g := fun _ => 4) q
  simp only at h1 h2 h3 ⊢
  rw [h1, h2, h3]
section
attribute [local irreducible] Ar.words
theorem restart_eq (m : Mo) {rb : Int} {c st : Nat} {A9s : Ar} {N : Mo} (hrb : rb = -1 - ((min m.order 12 : Nat) : Int)) (hc : c = m.a.restart.high - 12) (hs : st = m.a.restart.low)
    (hA : A9s = ((({ m.a.restart with high := c, low := st + unitsT (whichT 128) * 12 } : Ar).setNum c 2 256).setNum (c + 2) 2 257 |>.setNum (c + 4) 4 st).setNum (c + 8) 4 0)
    (hN : N = { m with restarts := m.restarts + 1, a := A9s.words st 256, fall := m.order, run := rb, runs := rb, success := 0, least := c, greatest := c, found := st }) :
    (N.bins 8192).ests (16 * 25) = m.restart := by
  have ha : A9s.words st 256 = Mo.rootA m.a := by rw [hA, hc, hs]; rfl
  rw [hN, ha, hc, hs, hrb]
  unfold Mo.restart Mo.bins Mo.ests
  simp only [show 16 * 25 = 400 from rfl]
end
theorem beginT_le (k : Nat) : beginT k ≤ 26162 := by unfold beginT; split <;> decide
section
variable {w : World} {mo ab mb mp : Nat} {m : Mo}
theorem MoAt.same2 (h : MoAt w mo ab mb mp m) {w' : World} {S : List Nat} (F : Fr S w w') (h1 : mo ∉ S) (h2 : ab ∉ S) (h3 : mb ∉ S) : MoAt w' mo ab mb mp m := ⟨h.blk.fr F h1, h.ar.fr F h2 h3, h.n1, h.n2⟩
set_option maxRecDepth 100000 in
set_option maxHeartbeats 8000000 in
theorem mrestart_any (h : MoAt w mo ab mb mp m) (hF : m.a.Fit) (hs : 2048 ≤ m.a.size) (ho : 2 ≤ m.order ∧ m.order ≤ 64) (hr : -1 ≤ m.restarts ∧ m.restarts ≤ 1000000000) :
    Calls Tryz.prog 55 #[.pointer (some ⟨mo, 0, none⟩)] w fun e w' => e = .returned (.tuple #[]) ∧ MoAt w' mo ab mb mp m.restart ∧ Fr [mo, ab, mb] w w' := by
  have kr : w.cell? ⟨mo, 9919, none⟩ = some (.int .i64 m.restarts) := h.blk.cell (by omega)
  have zr := h.blk.free 9919
  have hl := h.blk.lt
  have hr1 := hr.1
  have hr2 := hr.2
  have hA := h.setRestarts (m.restarts + 1)
  have HH := Lib.hid h
  clear h
  go_enter Tryz.func55, Tryz.ntmps55
  go_upto_region 1 with fail
  obtain ⟨wA, hwA⟩ : ∃ wA, wA = w.setCell ⟨mo, 9919, none⟩ (.int .i64 (m.restarts + 1)) := ⟨_, rfl⟩
  have FA : Fr [mo, ab, mb] w wA := hwA ▸ (Fr.refl _ _).setCell (.inl (by simp)) _
  rw [← hwA] at hA ⊢
  clear hwA kr zr hl HH
  have c0 : wA.cell? ⟨mo, 0, none⟩ = some (.pointer (some ⟨ab, 0, none⟩)) := hA.cell (by omega)
  have HC := Lib.hid (restart_any hA.ar hF)
  have HA := Lib.hid hA
  clear hA
  go_upto_region 2 with (go_at_call 91; refine HC.out.mono ?_; rintro e w1 ⟨rfl, H1, F1⟩)
  have hB0 : MoAt w1 mo ab mb mp { m with restarts := m.restarts + 1, a := m.a.restart } := ⟨HA.out.blk.fr F1 (by simpa using HA.out.n1), H1, HA.out.n1, HA.out.n2⟩
  have FB := FA.trans F1 (fun i hi => .inl (by simp at hi; simp [hi]))
  clear H1 F1 HC FA c0
  have k2 := hB0.cell (j := 2) (by omega)
  have k6 := hB0.cell (j := 6) (by omega)
  have k7 := hB0.cell (j := 7) (by omega)
  have k9 := hB0.cell (j := 9) (by omega)
  have z6 := hB0.blk.free 6
  have z7 := hB0.blk.free 7
  have z9 := hB0.blk.free 9
  have hl := hB0.blk.lt
  simp only [moH] at k2 k6 k7 k9
  have ho1 : (2 : Int) ≤ (m.order : Int) := by omega
  have ho2 : (m.order : Int) ≤ 64 := by omega
  have HB := Lib.hid hB0
  have HFB := Lib.hid FB
  clear hB0 FB
  go_region
  have hrb0 : (-1 - if (12 : Int) < (m.order : Int) then 12 else (m.order : Int)) = -1 - ((min m.order 12 : Nat) : Int) := by split <;> omega
  generalize (-1 - if (12 : Int) < (m.order : Int) then 12 else (m.order : Int)) = rb at hrb0 ⊢
  have HRB := Lib.hid hrb0
  clear hrb0
  try generalize (if (12 : Int) < (m.order : Int) then 12 else (m.order : Int)) = om
  obtain ⟨wC, hwC⟩ : ∃ wC, wC = (((w1.setCell ⟨mo, 6, none⟩ (.int .i64 m.order)).setCell ⟨mo, 7, none⟩ (.int .i64 rb)).setCell ⟨mo, 9, none⟩ (.int .i64 0)).drew := ⟨_, rfl⟩
  have hC0 : MoAt wC mo ab mb mp { m with restarts := m.restarts + 1, a := m.a.restart, fall := m.order, run := rb, success := 0 } := by
    rw [hwC]
    refine MoAt.same ?_ Same.drew
    exact ((HB.out.low (m' := { m with restarts := m.restarts + 1, a := m.a.restart, fall := m.order }) (j := 6) (by omega) rfl (twelve (fun _ => rfl) (fun _ => rfl) (fun _ => rfl) (fun _ => rfl) (fun _ => rfl) (fun _ => rfl) (fun h => absurd rfl h) (fun _ => rfl) (fun _ => rfl) (fun _ => rfl) (fun _ => rfl) (fun _ => rfl)) rfl rfl rfl rfl rfl rfl).low (m' := { m with restarts := m.restarts + 1, a := m.a.restart, fall := m.order, run := rb }) (j := 7) (by omega) rfl (twelve (fun _ => rfl) (fun _ => rfl) (fun _ => rfl) (fun _ => rfl) (fun _ => rfl) (fun _ => rfl) (fun _ => rfl) (fun h => absurd rfl h) (fun _ => rfl) (fun _ => rfl) (fun _ => rfl) (fun _ => rfl)) rfl rfl rfl rfl rfl rfl).low (m' := { m with restarts := m.restarts + 1, a := m.a.restart, fall := m.order, run := rb, success := 0 }) (j := 9) (by omega) rfl (twelve (fun _ => rfl) (fun _ => rfl) (fun _ => rfl) (fun _ => rfl) (fun _ => rfl) (fun _ => rfl) (fun _ => rfl) (fun _ => rfl) (fun _ => rfl) (fun h => absurd rfl h) (fun _ => rfl) (fun _ => rfl)) rfl rfl rfl rfl rfl rfl
  have FC : Fr [mo, ab, mb] w wC := hwC ▸ (((HFB.out.setCell (.inl (by simp)) _).setCell (.inl (by simp)) _).setCell (.inl (by simp)) _).drew
  rw [← hwC]
  clear hwC HB HFB k2 k6 k7 k9 z6 z7 z9 hl
  have k7 := hC0.cell (j := 7) (by omega)
  have k8 := hC0.cell (j := 8) (by omega)
  have z8 := hC0.blk.free 8
  have hl := hC0.blk.lt
  simp only [moH] at k7 k8
  have HC0 := Lib.hid hC0
  clear hC0
  go_upto_region 4 with fail
  obtain ⟨wD, hwD⟩ : ∃ wD, wD = wC.setCell ⟨mo, 8, none⟩ (.int .i64 rb) := ⟨_, rfl⟩
  have hD0 := HC0.out.low (m' := { m with restarts := m.restarts + 1, a := m.a.restart, fall := m.order, run := rb, runs := rb, success := 0 }) (j := 8) (v := .int .i64 rb) (by omega) rfl (twelve (fun _ => rfl) (fun _ => rfl) (fun _ => rfl) (fun _ => rfl) (fun _ => rfl) (fun _ => rfl) (fun _ => rfl) (fun _ => rfl) (fun h => absurd rfl h) (fun _ => rfl) (fun _ => rfl) (fun _ => rfl)) rfl rfl rfl rfl rfl rfl
  have FD : Fr [mo, ab, mb] w wD := hwD ▸ FC.setCell (.inl (by simp)) _
  rw [← hwD] at hD0 ⊢
  clear hwD HC0 k7 k8 z8 hl FC
  obtain ⟨q1, q2, q3, q4, q5, q6⟩ := rest_cells hs hF.size
  have c0 := hD0.cell (j := 0) (by omega)
  simp only [moH] at c0
  have hfit := restart_fit hF
  obtain ⟨c, hc⟩ : ∃ c, c = m.a.restart.high - 12 := ⟨_, rfl⟩
  obtain ⟨st, hst⟩ : ∃ st, st = m.a.restart.low := ⟨_, rfl⟩
  have hO0 := fun (wx : World) (S : Same wD wx) => one_easy (hD0.same S).ar hfit q4 q2
  have HD0 := Lib.hid hD0
  have hU0 := fun (wx : World) (H : ArAt wx ab mb mp { m.a.restart with high := m.a.restart.high - 12 }) => units_easy H ⟨hfit.size, hfit.len, hfit.text, hfit.start, hfit.low, by have := hfit.high; show m.a.restart.high - 12 ≤ _; omega, hfit.glue⟩ 128 (by omega) (by omega) rfl (by decide) (by show m.a.restart.low ≤ m.a.restart.high - 12; omega) (by have e : unitsT (whichT 128) = 128 := (by decide); rw [e]; show 128 * 12 ≤ m.a.restart.high - 12 - m.a.restart.low; omega) (by decide)
  have hO1 : ∀ wx : World, Same wD wx → Calls Tryz.prog 93 #[.pointer (some ⟨ab, 0, none⟩)] wx fun e w' => e = .returned (.int .i64 c) ∧ ArAt w' ab mb mp { m.a.restart with high := c } ∧ Fr [ab] wx w' := by rw [hc]; exact hO0
  have hU1 : ∀ wx : World, ArAt wx ab mb mp { m.a.restart with high := c } → Calls Tryz.prog 94 #[.pointer (some ⟨ab, 0, none⟩), .int .i64 128] wx fun e w' => e = .returned (.int .i64 st) ∧ ArAt w' ab mb mp { m.a.restart with high := c, low := st + unitsT (whichT 128) * 12 } ∧ Fr [ab] wx w' := by rw [hc, hst]; exact hU0
  have HO := Lib.hid hO1
  have HU := Lib.hid hU1
  have HCC := Lib.hid hc
  have HSS := Lib.hid hst
  have hcm : c ≤ 1000000 := by have := hfit.high; omega
  have hsm : st ≤ 1000000 := by have := hfit.low; omega
  have HC1 := Lib.hid (fun (wx : World) (F : Fr [ab] wD wx) => (F.cell (p := ⟨mo, 0, none⟩) hD0.blk.lt (by simpa using hD0.n1)).trans c0)
  clear hD0 hO0 hU0 hO1 hU1 hc hst q1 q2 q3 q4 q5 q6 hfit
  rename_i K0 hK0
  go_cut [2, 3] from 48 to 58 (fun a b wx => a = .int .i64 c ∧ b = .int .i64 st ∧ Hid (ArAt wx ab mb mp { m.a.restart with high := c, low := st + unitsT (whichT 128) * 12 } ∧ Fr [ab] wD wx))
  case first =>
    clear hK0
    go_region_law (first
      | (have hq := H1; go_simp; go_at_call 94; refine (HU.out _ H1).mono ?_; rintro e w6 ⟨rfl, H2, F12⟩; have F2 : Fr [ab] wD w6 := F1.trans F12 (fun i hi => .inl hi))
      | (go_simp; go_at_call 93; refine (HO.out _ Same.drew).mono ?_; rintro e w5 ⟨rfl, H1, F01⟩; have F1 : Fr [ab] wD w5 := (Same.fr (S := [ab]) (Same.drew (w := wD))).trans F01 (fun i hi => .inl hi); have c1 := HC1.out _ F1))
    all_goals (go_simp; try go_step)
    all_goals go_meet
    all_goals exact ⟨rfl, rfl, Lib.hid ⟨H2, F2⟩⟩
  case rest =>
    obtain ⟨rfl, rfl, HE⟩ := hcut
    (refine hK0 _ _ ?_; clear hK0)
    have H5 : MoAt wc mo ab mb mp { m with restarts := m.restarts + 1, a := { m.a.restart with high := c, low := st + unitsT (whichT 128) * 12 }, fall := m.order, run := rb, runs := rb, success := 0 } := ⟨HD0.out.blk.fr HE.out.2 (by simpa using HD0.out.n1), HE.out.1, HD0.out.n1, HD0.out.n2⟩
    have F5 : Fr [mo, ab, mb] w wc := FD.trans HE.out.2 (fun i hi => .inl (by simp at hi; simp [hi]))
    have c5 := H5.c0
    clear c0 HE HD0 HC1 FD HO HU
    go_upto_region 9 with (first
      | (have hq := H8; go_at_call 95; refine (setnum_any H8.ar (c + 8) 4 0 (by omega) (by omega)).mono ?_; rintro e w9 ⟨rfl, A9, F89⟩; have H9 := H8.put A9 F89; have F9 := F8.trans F89 (fun i hi => .inl (by simp at hi; simp [hi])); have c9 := H9.c0)
      | (have hq := H7; go_at_call 95; refine (setnum_any H7.ar (c + 4) 4 st (by omega) (by omega)).mono ?_; rintro e w8 ⟨rfl, A8, F78⟩; have H8 := H7.put A8 F78; have F8 := F7.trans F78 (fun i hi => .inl (by simp at hi; simp [hi])); have c8 := H8.c0)
      | (have hq := H6; go_at_call 96; refine (setsum_any H6 c 257 (by omega)).mono ?_; rintro e w7 ⟨rfl, H7, F67⟩; have F7 := F6.trans F67 (fun i hi => .inl (by simp at hi; simp [hi])); have c7 := H7.c0)
      | (go_at_call 95; refine (setnum_any H5.ar c 2 256 (by omega) (by omega)).mono ?_; rintro e w6 ⟨rfl, A6, F56⟩; have H6 := H5.put A6 F56; have F6 := F5.trans F56 (fun i hi => .inl (by simp at hi; simp [hi])); have c6 := H6.c0))
    obtain ⟨A9s, hA9s⟩ : ∃ A : Ar, A = ((({ m.a.restart with high := c, low := st + unitsT (whichT 128) * 12 } : Ar).setNum c 2 256).setNum (c + 2) 2 257 |>.setNum (c + 4) 4 st).setNum (c + 8) 4 0 := ⟨_, rfl⟩
    have H9' : MoAt w9 mo ab mb mp { m with restarts := m.restarts + 1, a := A9s, fall := m.order, run := rb, runs := rb, success := 0 } := by rw [hA9s]; exact H9
    have k3 := H9'.cell (j := 3) (by omega)
    have k4 := H9'.cell (j := 4) (by omega)
    have k5 := H9'.cell (j := 5) (by omega)
    have z3 := H9'.blk.free 3
    have z4 := H9'.blk.free 4
    have z5 := H9'.blk.free 5
    have hl := H9'.blk.lt
    simp only [moH] at k3 k4 k5
    have HH9 := Lib.hid H9'
    have HF9 := Lib.hid F9
    have HA9 := Lib.hid hA9s
    clear H5 H6 H7 H8 H9 H9' F5 F6 F7 F8 F9 A6 A8 A9 c5 c6 c7 c8 c9 F56 F67 F78 F89 hA9s
    go_upto_region 10 with fail
    obtain ⟨wF, hwF⟩ : ∃ wF, wF = ((w9.setCell ⟨mo, 3, none⟩ (.int .i64 c)).setCell ⟨mo, 4, none⟩ (.int .i64 c)).setCell ⟨mo, 5, none⟩ (.int .i64 st) := ⟨_, rfl⟩
    have hF0 : MoAt wF mo ab mb mp { m with restarts := m.restarts + 1, a := A9s, fall := m.order, run := rb, runs := rb, success := 0, least := c, greatest := c, found := st } := by
      rw [hwF]
      exact ((HH9.out.low (m' := { m with restarts := m.restarts + 1, a := A9s, fall := m.order, run := rb, runs := rb, success := 0, least := c }) (j := 3) (by omega) rfl (twelve (fun _ => rfl) (fun _ => rfl) (fun _ => rfl) (fun h => absurd rfl h) (fun _ => rfl) (fun _ => rfl) (fun _ => rfl) (fun _ => rfl) (fun _ => rfl) (fun _ => rfl) (fun _ => rfl) (fun _ => rfl)) rfl rfl rfl rfl rfl rfl).low (m' := { m with restarts := m.restarts + 1, a := A9s, fall := m.order, run := rb, runs := rb, success := 0, least := c, greatest := c }) (j := 4) (by omega) rfl (twelve (fun _ => rfl) (fun _ => rfl) (fun _ => rfl) (fun _ => rfl) (fun h => absurd rfl h) (fun _ => rfl) (fun _ => rfl) (fun _ => rfl) (fun _ => rfl) (fun _ => rfl) (fun _ => rfl) (fun _ => rfl)) rfl rfl rfl rfl rfl rfl).low (m' := { m with restarts := m.restarts + 1, a := A9s, fall := m.order, run := rb, runs := rb, success := 0, least := c, greatest := c, found := st }) (j := 5) (by omega) rfl (twelve (fun _ => rfl) (fun _ => rfl) (fun _ => rfl) (fun _ => rfl) (fun _ => rfl) (fun h => absurd rfl h) (fun _ => rfl) (fun _ => rfl) (fun _ => rfl) (fun _ => rfl) (fun _ => rfl) (fun _ => rfl)) rfl rfl rfl rfl rfl rfl
    have FF : Fr [mo, ab, mb] w wF := hwF ▸ ((HF9.out.setCell (.inl (by simp)) _).setCell (.inl (by simp)) _).setCell (.inl (by simp)) _
    rw [← hwF]
    obtain ⟨M, hM⟩ : ∃ M : Mo, M = { m with restarts := m.restarts + 1, a := A9s, fall := m.order, run := rb, runs := rb, success := 0, least := c, greatest := c, found := st } := ⟨_, rfl⟩
    have hMa : M.a = A9s := by rw [hM]
    rw [← hM] at hF0
    have HM := Lib.hid hM
    have HMA := Lib.hid hMa
    have HF0 := Lib.hid (And.intro hF0 FF)
    clear hwF HH9 HF9 k3 k4 k5 z3 z4 z5 hl hM hF0 FF hMa
    go_wp2_with fail
    go_loopw [94] (fun i wr => ∃ k : Nat, k ≤ 256 ∧ i = .int .i64 k ∧ Hid (MoAt wr mo ab mb mp { M with a := A9s.words st k } ∧ Fr [mo, ab, mb] w wr)) (fun i _ => 256 - (intOf i).toNat)
    case atStart => exact ⟨0, by omega, rfl, Lib.hid ⟨by have h := HF0.out.1; rw [show ({ M with a := A9s.words st 0 } : Mo) = M from by show ({ M with a := A9s } : Mo) = M; rw [← HMA.out]]; exact h, HF0.out.2⟩⟩
    case round =>
      obtain ⟨k, hk, rfl, HK⟩ := hrel
      by_cases hlt : k < 256
      · have hor := or_256 k hlt
        have HW := Lib.hid (setword_any HK.out.1 (st + k * 6) (k + 256) (by omega))
        have hkI : (k : Int) < 256 := by omega
        go_wp2_with (go_at_call 97; refine HW.out.mono ?_; rintro e w3 ⟨rfl, H3, F3⟩)
        go_roundw
        case rel => exact ⟨k + 1, hlt, rfl, Lib.hid ⟨H3, HK.out.2.trans F3 (fun i hi => .inl (by simp at hi; simp [hi]))⟩⟩
        case measure => simp [intOf]; omega
      · obtain rfl : k = 256 := by omega
        have HK0 := Lib.hid HK.out
        clear HK
        go_upto_region 16 with fail
        obtain ⟨bg, hbg⟩ : ∃ bg, bg = wr.heap.size := ⟨_, rfl⟩
        obtain ⟨wG, hwG⟩ : ∃ wG, wG = wr.alloc (.cells #[.int .i64 15581, .int .i64 7999, .int .i64 22975, .int .i64 18675, .int .i64 25761, .int .i64 23228, .int .i64 26162, .int .i64 24657] 185) := ⟨_, rfl⟩
        rw [← hwG, ← hbg]
        have hlm := HK0.out.1.blk.lt
        have hla := HK0.out.1.ar.blk.lt
        have hlb := HK0.out.1.ar.mem.lt
        have hB0 : Blk wG bg 185 8 (fun j => .int .i64 (beginT j)) := by
          rw [hwG, hbg]
          refine Blk.new _ _ _ 8 _ (by simp) ?_
          intro j hj
          obtain rfl | rfl | rfl | rfl | rfl | rfl | rfl | rfl : j = 0 ∨ j = 1 ∨ j = 2 ∨ j = 3 ∨ j = 4 ∨ j = 5 ∨ j = 6 ∨ j = 7 := by omega
          all_goals rfl
        have FG : Fr [] wr wG := hwG ▸ (Fr.refl _ _).alloc _
        obtain ⟨N, hN⟩ : ∃ N : Mo, N = { M with a := A9s.words st 256 } := ⟨_, rfl⟩
        have hG0 : MoAt wG mo ab mb mp (N.bins 0) := by rw [Mo.bins_zero, hN]; exact HK0.out.1.same2 FG (by simp) (by simp) (by simp)
        have hn : bg ≠ mo ∧ bg ≠ ab ∧ bg ≠ mb := ⟨by omega, by omega, by omega⟩
        have HG := Lib.hid (show MoAt wG mo ab mb mp (N.bins 0) ∧ Fr [mo, ab, mb] w wG ∧ Blk wG bg 185 8 (fun j => .int .i64 (beginT j)) from ⟨hG0, HK0.out.2.trans FG (fun i hi => absurd hi (by simp)), hB0⟩)
        have HN := Lib.hid hN
        have HNE := Lib.hid hn
        clear hlm hla hlb hB0 FG hG0 hn hN HK0 hwG hbg
        go_wp2_with fail
        go_loopw [107] (fun x wr => ∃ i : Nat, i ≤ 128 ∧ x = .int .i64 i ∧ Hid (MoAt wr mo ab mb mp (N.bins (64 * i)) ∧ Fr [mo, ab, mb] w wr ∧ Blk wr bg 185 8 (fun j => .int .i64 (beginT j)))) (fun i _ => 128 - (intOf i).toNat)
        case atStart => exact ⟨0, by omega, rfl, HG⟩
        case round =>
          obtain ⟨i, hi, rfl, HI⟩ := hrel
          by_cases hlt : i < 128
          · have hiI : (i : Int) < 128 := by omega
            go_wp2_with fail
            go_loopw [110] (fun x wr => ∃ k : Nat, k ≤ 64 ∧ x = .int .i64 k ∧ Hid (MoAt wr mo ab mb mp (N.bins (64 * i + k)) ∧ Fr [mo, ab, mb] w wr ∧ Blk wr bg 185 8 (fun j => .int .i64 (beginT j)))) (fun x _ => 64 - (intOf x).toNat)
            case atStart => exact ⟨0, by omega, rfl, HI⟩
            case round =>
              obtain ⟨k, hk, rfl, HK⟩ := hrel
              by_cases hlk : k < 64
              · have hkI : (k : Int) < 64 := by omega
                obtain ⟨r, hr⟩ : ∃ r, r = k % 8 := ⟨_, rfl⟩
                have hr8 : r < 8 := by omega
                obtain ⟨B, hB⟩ : ∃ B, B = beginT r := ⟨_, rfl⟩
                have hB2 : B ≤ 26162 := hB ▸ beginT_le r
                obtain ⟨Q, hQ⟩ : ∃ Q, Q = B / (i + 2) := ⟨_, rfl⟩
                have hQ2 : Q ≤ 13081 := by rw [hQ]; exact Nat.le_trans (Nat.div_le_div_left (show 2 ≤ i + 2 by omega) (by omega)) (by omega)
                have ck : wr.cell? ⟨bg, r, none⟩ = some (.int .i64 B) := by rw [hB]; exact HK.out.2.2.cell (by omega)
                have hrem : (k : Int).tmod 8 = (r : Int) := by rw [hr]; rfl
                have hquo : (B : Int).tdiv ((i : Int) + 2) = (Q : Int) := by rw [hQ]; rfl
                have zq := HK.out.1.blk.free (12 + i * 64 + k)
                have kq := HK.out.1.blk.cell (j := 12 + i * 64 + k) (by omega)
                have hlm := HK.out.1.blk.lt
                have HRQ := Lib.hid (And.intro hr (And.intro hB hQ))
                clear hr hB hQ
                go_wp2_with fail
                go_region
                go_wp2_with fail
                go_roundw
                case rel =>
                  refine ⟨k + 1, hlk, rfl, Lib.hid ?_⟩
                  have e : 12 + i * 64 + k = 12 + (64 * i + k) := by omega
                  have e2 : (16384 - (Q : Int)) = ((binT (64 * i + k) : Nat) : Int) := by
                    have hbt : binT (64 * i + k) = 16384 - Q := by
                      unfold binT
                      rw [show (64 * i + k) % 64 % 8 = r from by rw [HRQ.out.1]; omega, show (64 * i + k) / 64 = i from by omega, ← HRQ.out.2.1, ← HRQ.out.2.2]
                    rw [hbt]; omega
                  rw [e, e2]
                  have F : Fr [mo] wr ((wr.setCell ⟨mo, 12 + (64 * i + k), none⟩ (.int .u16 (binT (64 * i + k)))).drew) := ((Fr.refl _ _).setCell (.inl (by simp)) _).drew
                  refine ⟨?_, HK.out.2.1.trans F (fun j hj => .inl (by simp at hj; simp [hj])), HK.out.2.2.fr F (by simpa using HNE.out.1)⟩
                  have h := (HK.out.1.setBin (64 * i + k) (binT (64 * i + k)) (by omega)).same Same.drew
                  rw [Mo.bins_succ] at h
                  exact h
                case measure => simp [intOf]; omega
              · obtain rfl : k = 64 := by omega
                go_wp2_with fail
                go_roundw
                case rel => exact ⟨i + 1, hlt, rfl, HK⟩
                case measure => simp [intOf]; omega
          · obtain rfl : i = 128 := by omega
            have HI0 := Lib.hid HI.out
            clear HI HNE
            go_wp2_with fail
            go_loopw [131] (fun x wr => ∃ i : Nat, i ≤ 25 ∧ x = .int .i64 i ∧ Hid (MoAt wr mo ab mb mp ((N.bins 8192).ests (16 * i)) ∧ Fr [mo, ab, mb] w wr)) (fun i _ => 25 - (intOf i).toNat)
            case atStart => exact ⟨0, by omega, rfl, Lib.hid (by rw [Mo.ests_zero]; exact ⟨HI0.out.1, HI0.out.2.1⟩)⟩
            case round =>
              obtain ⟨i, hi, rfl, HI⟩ := hrel
              by_cases hlt : i < 25
              · have hiI : (i : Int) < 25 := by omega
                go_wp2_with fail
                go_loopw [134] (fun x wr => ∃ k : Nat, k ≤ 16 ∧ x = .int .i64 k ∧ Hid (MoAt wr mo ab mb mp ((N.bins 8192).ests (16 * i + k)) ∧ Fr [mo, ab, mb] w wr)) (fun x _ => 16 - (intOf x).toNat)
                case atStart => exact ⟨0, by omega, rfl, HI⟩
                case round =>
                  obtain ⟨k, hk, rfl, HK⟩ := hrel
                  by_cases hlk : k < 16
                  · have hkI : (k : Int) < 16 := by omega
                    have z0 := HK.out.1.blk.free (8204 + i * 48 + k * 3)
                    have z1 := HK.out.1.blk.free (8204 + i * 48 + k * 3 + 1)
                    have z2 := HK.out.1.blk.free (8204 + i * 48 + k * 3 + 2)
                    have q0 := HK.out.1.blk.cell (j := 8204 + i * 48 + k * 3) (by omega)
                    have q1 := HK.out.1.blk.cell (j := 8204 + i * 48 + k * 3 + 1) (by omega)
                    have q2 := HK.out.1.blk.cell (j := 8204 + i * 48 + k * 3 + 2) (by omega)
                    have hlm := HK.out.1.blk.lt
                    go_wp2_with fail
                    go_roundw
                    case rel =>
                      refine ⟨k + 1, hlk, rfl, Lib.hid ?_⟩
                      have e : 8204 + i * 48 + k * 3 = 8204 + 3 * (16 * i + k) := by omega
                      have e2 : (5 * (i : Int) + 10) * 8 = (((5 * ((16 * i + k) / 16) + 10) * 8 : Nat) : Int) := by
                        rw [show (16 * i + k) / 16 = i from by omega]; omega
                      rw [e, e2]
                      refine ⟨?_, HK.out.2.trans (((((Fr.refl (S := [mo]) wr).setCell (.inl (by simp)) _).setCell (.inl (by simp)) _).setCell (.inl (by simp)) _)) (fun j hj => .inl (by simp at hj; simp [hj]))⟩
                      rw [show 16 * i + (k + 1) = (16 * i + k) + 1 from rfl, ← Mo.ests_succ]
                      exact (((HK.out.1.setEs (16 * i + k) _ (by omega)).setEh (16 * i + k) 3 (by omega)).setEc (16 * i + k) 4 (by omega))
                    case measure => simp [intOf]; omega
                  · obtain rfl : k = 16 := by omega
                    go_wp2_with fail
                    go_roundw
                    case rel => exact ⟨i + 1, hlt, rfl, HK⟩
                    case measure => simp [intOf]; omega
              · obtain rfl : i = 25 := by omega
                have hend : (N.bins 8192).ests (16 * 25) = m.restart := restart_eq m HRB.out HCC.out HSS.out HA9.out (HN.out.trans (by rw [HM.out]))
                rw [hend] at HI
                go_wp2_with fail
                go_end0
                exact ⟨rfl, HI.out.1, HI.out.2⟩
end
end Go.Proofs.YtjfoccbbjhigbaaGreat
