/- Contract: headerw.mayFolder. No condition but that lengths fit. -/
import Derived.Test.YtkodindajfdagaaDoorGAO
import Derived.Deep.RegionHeld3
import Derived.BigQuiet
namespace Go.Proofs.YtkodindajfdagaaDoor
open Go.RowKit

theorem mayFol_head {x : Fol} (h : foHead x = false) : mayFol x = false := by simp [mayFol, h]
theorem mayFol_co {x : Fol} {k : Nat} {c : Coder} {z : UInt64} (hc : x.f.coders[k]? = some c) (hz : x.f.sizes[k]? = some z) (h : coOk c z = false) : mayFol x = false := by
  have : coAll x.f = false := by
    by_cases e : coAll x.f = true
    · have := zip_all e hc hz
      simp [h] at this
    · simpa using e
  simp [mayFol, this]
theorem mayFol_bi {x : Fol} {b : Int × Int} (hb : b ∈ x.f.binds) (h : biOk (allOf x.f) x.f.coders.length b = false) : mayFol x = false := by
  have : x.f.binds.all (biOk (allOf x.f) x.f.coders.length) = false := by
    rw [List.all_eq_false]
    exact ⟨b, hb, by simp [h]⟩
  simp [mayFol, this]
theorem mayFol_pa {x : Fol} (h : paHead x.f = false) : mayFol x = false := by simp [mayFol, h]
theorem mayFol_end {x : Fol} (h1 : foHead x = true) (h2 : coAll x.f = true) (h3 : x.f.binds.all (biOk (allOf x.f) x.f.coders.length) = true) (h4 : paHead x.f = true) : mayFol x = lonely x.f := by simp [mayFol, h1, h2, h3, h4]
theorem coAll_take {f : Folder} {k : Nat} {c : Coder} {z : UInt64} (hc : f.coders[k]? = some c) (hz : f.sizes[k]? = some z) (h : ((f.coders.zip f.sizes).take k).all (fun x => coOk x.1 x.2) = true) (h2 : coOk c z = true) : ((f.coders.zip f.sizes).take (k + 1)).all (fun x => coOk x.1 x.2) = true := by
  have e : (f.coders.zip f.sizes)[k]? = some (c, z) := by rw [List.getElem?_zip_eq_some]; exact ⟨hc, hz⟩
  rw [List.take_add_one, e, List.all_append, h]
  simp [h2]

def mfArgs (cao bao pao sao : Option Addr) (a ac b bc p pc s sc : Nat) (h : Bool) (m : UInt32) : Array Value := #[.slice cao a ac, .slice bao b bc, .slice pao p pc, .slice sao s sc, .bool h, .int .u32 m.toNat]

set_option maxRecDepth 100000 in
set_option maxHeartbeats 8000000 in
theorem mayfolder_any (w : World) (cv bv' pv sv : Value) (x : Fol) (hf : FoV w cv bv' pv sv x.f) (hcl : x.f.coders.length ≤ 100000) (hbl : x.f.binds.length ≤ 100000) (hpl : x.f.packs.length ≤ 100000) :
    Calls Tryd.prog 39 #[.agg #[cv, bv', pv, sv, .bool x.ck.has, .int .u32 x.ck.sum.toNat]] w fun e w' => e = .returned (.bool (mayFol x)) ∧ Fr [] w w' := by
  obtain ⟨cao, ccap, rfl, -, -, co⟩ := hf.co.out
  obtain ⟨bao, bcap, rfl, -, -, bo⟩ := hf.bi.out
  have hpo := hf.pa.out
  rw [iv_length] at hpo
  obtain ⟨pao, pcap, rfl, -, -, po⟩ := hpo
  have hso := hf.si.out
  rw [u64v_length] at hso
  obtain ⟨sao, scap, rfl, -, -, so⟩ := hso
  have HCo := Lib.hid co
  have HBo := Lib.hid bo
  have HPo := Lib.hid po
  have HSo := Lib.hid so
  have HF := Lib.hid hf
  have HLo := Lib.hid (fun wx (F : Fr [] w wx) => lone_any wx _ _ _ _ (.bool x.ck.has) (.int .u32 x.ck.sum.toNat) x.f (hf.fr F) hbl)
  have HIn := Lib.hid (fun wx (F : Fr [] w wx) => insl_any wx _ _ _ _ (.bool x.ck.has) (.int .u32 x.ck.sum.toNat) x.f (hf.fr F) hcl)
  have HMi := Lib.hid (fun wx (F : Fr [] w wx) (hne : x.f.packs ≠ []) => min_any wx _ x.f.packs ((hf.fr F).pa) hne (by omega))
  have HMa := Lib.hid (fun wx (F : Fr [] w wx) (hne : x.f.packs ≠ []) => max_any wx _ x.f.packs ((hf.fr F).pa) hne (by omega))
  have HFa := Lib.hid (fun wx => fair_any wx x.ck)
  obtain ⟨N, hN⟩ : ∃ N, x.f.coders.length = N := ⟨_, rfl⟩
  obtain ⟨M, hM⟩ : ∃ M, x.f.binds.length = M := ⟨_, rfl⟩
  obtain ⟨Q, hQ⟩ : ∃ Q, x.f.packs.length = Q := ⟨_, rfl⟩
  obtain ⟨Z, hZ⟩ : ∃ Z, x.f.sizes.length = Z := ⟨_, rfl⟩
  have HN := Lib.hid hN
  have HM := Lib.hid hM
  have HQ := Lib.hid hQ
  have HZ := Lib.hid hZ
  rw [hN] at hcl HLo HIn ⊢
  rw [hM] at hbl HLo HIn ⊢
  rw [hQ] at hpl HLo HIn HMi HMa ⊢
  rw [hZ] at HLo HIn ⊢
  have HW := Lib.hid (show mayFol x = mayFol x from rfl)
  have hH : foHead x = (decide (1 ≤ N) && decide (N ≤ 8) && decide (M + 1 = N) && decide (Z = N) && (x.ck.has || x.ck.sum == 0)) := by unfold foHead ckOk; rw [hN, hM, hZ]
  have HH := Lib.hid hH
  clear hN hM hQ hZ hH hf co bo po so
  obtain ⟨wA, hwA⟩ : ∃ wA, wA = w.alloc (.cells #[.slice cao N ccap, .slice bao M bcap, .slice pao Q pcap, .slice sao Z scap, .bool x.ck.has, .int .u32 x.ck.sum.toNat] 46) := ⟨_, rfl⟩
  have FA : Fr [] w wA := hwA ▸ (Fr.refl _ _).alloc _
  have HBX := Lib.hid (fun wx (F2 : Fr [] wA wx) => box6 (hwA ▸ F2 : Fr [] (w.alloc (.cells #[.slice cao N ccap, .slice bao M bcap, .slice pao Q pcap, .slice sao Z scap, .bool x.ck.has, .int .u32 x.ck.sum.toNat] 46)) wx))
  obtain ⟨k0, k1, k2, k3, k4, k5⟩ := HBX.out wA (Fr.refl _ _)
  have hnot : ∀ (x : Bool) (w : World), (Op.unary .not (.bool x)).run Tryd.prog w = .ok (.bool (!x)) w := fun _ _ => rfl
  by_cases h1 : 1 ≤ N
  rotate_left
  · have HE := Lib.hid (mayFol_head (x := x) (by rw [HH.out, decide_eq_false h1]; rfl))
    have t1 : (N : Int) < 1 := by omega
    go_enter Tryd.func39, Tryd.ntmps39
    go_wp2_with fail
    go_ret
    exact ⟨by rw [HE.out]; rfl, (Fr.refl _ _).alloc _⟩
  have d1 : decide ((N : Int) < 1) = false := decide_eq_false (by omega)
  by_cases h2 : N ≤ 8
  rotate_left
  · have HE := Lib.hid (mayFol_head (x := x) (by rw [HH.out, decide_eq_false h2]; simp))
    have t1 : (8 : Int) < (N : Int) := by omega
    go_enter Tryd.func39, Tryd.ntmps39
    go_wp2_with fail
    go_ret
    exact ⟨by rw [HE.out]; rfl, (Fr.refl _ _).alloc _⟩
  have d2 : decide ((8 : Int) < (N : Int)) = false := decide_eq_false (by omega)
  have hsub : wrap64 ((N : Int) - 1) = ((N - 1 : Nat) : Int) := by unfold wrap64; omega
  by_cases h3 : M + 1 = N
  rotate_left
  · have HE := Lib.hid (mayFol_head (x := x) (by rw [HH.out, decide_eq_false h3]; simp))
    have t1 : ((M : Int) == (N : Int) - 1) = false := by rw [beq_eq_false_iff_ne]; omega
    have t1' : ((M : Int) != (N : Int) - 1) = true := by unfold bne; rw [t1]; rfl
    go_enter Tryd.func39, Tryd.ntmps39
    go_wp2_with fail
    go_ret
    exact ⟨by rw [HE.out]; rfl, (Fr.refl _ _).alloc _⟩
  have t3 : ((M : Int) == (N : Int) - 1) = true := by rw [beq_iff_eq]; omega
  have t3' : ((M : Int) != (N : Int) - 1) = false := by unfold bne; rw [t3]; rfl
  by_cases h4 : Z = N
  rotate_left
  · have HE := Lib.hid (mayFol_head (x := x) (by rw [HH.out, decide_eq_false h4]; simp))
    have t1 : ((Z : Int) == (N : Int)) = false := by rw [beq_eq_false_iff_ne]; omega
    have t1' : ((Z : Int) != (N : Int)) = true := by unfold bne; rw [t1]; rfl
    have HD := Lib.hid h3
    clear h3 h4
    go_enter Tryd.func39, Tryd.ntmps39
    go_wp2_with fail
    go_ret
    exact ⟨by rw [HE.out]; rfl, (Fr.refl _ _).alloc _⟩
  have t4 : ((Z : Int) == (N : Int)) = true := by rw [beq_iff_eq]; omega
  have t4' : ((Z : Int) != (N : Int)) = false := by unfold bne; rw [t4]; rfl
  have HD3 := Lib.hid h3
  have HD4 := Lib.hid h4
  clear h3 h4
  by_cases h5 : (x.ck.has || x.ck.sum == 0) = true
  rotate_left
  · have h5' : (x.ck.has || x.ck.sum == 0) = false := by simpa using h5
    have HE := Lib.hid (mayFol_head (x := x) (by rw [HH.out, h5']; simp))
    rw [h5'] at HFa
    clear h5 h5' HH
    go_enter Tryd.func39, Tryd.ntmps39
    go_wp2_with (go_at_call 38; refine (HFa.out _).mono ?_; rintro e w1 ⟨rfl, F1⟩)
    rw [← hwA] at F1
    go_ret
    exact ⟨by rw [HE.out]; rfl, FA.trans0 F1⟩
  have HHd := Lib.hid (show foHead x = true by rw [HH.out, decide_eq_true (by omega : 1 ≤ N), decide_eq_true h2, decide_eq_true HD3.out, decide_eq_true HD4.out, h5]; rfl)
  rw [h5] at HFa
  clear h5 HH
  go_enter Tryd.func39, Tryd.ntmps39
  go_wp2_with (go_at_call 38; rw [← hwA]; refine (HFa.out _).mono ?_; rintro e w1 ⟨rfl, F1⟩; obtain ⟨l0, l1, l2, l3, l4, l5⟩ := HBX.out w1 F1)
  clear hwA k0 k1 k2 k3 k4 k5
  have HF1 := Lib.hid F1
  go_loopw [42] (fun i wr => ∃ k : Nat, k ≤ N ∧ i = .int .i64 k ∧ Hid (((x.f.coders.zip x.f.sizes).take k).all (fun x => coOk x.1 x.2) = true) ∧ Fr [] w1 wr) (fun i _ => N - (intOf i).toNat)
  case atStart => exact ⟨0, Nat.zero_le _, rfl, by show ([] : List (Coder × UInt64)).all _ = true; rfl, Fr.refl _ _⟩
  case round =>
    obtain ⟨k, hk, rfl, hA, F⟩ := hrel
    by_cases hlt : k < N
    · obtain ⟨c, hc⟩ := some_get x.f.coders k (by rw [HN.out]; exact hlt)
      obtain ⟨z, hz⟩ := some_get x.f.sizes k (by rw [HZ.out, HD4.out]; exact hlt)
      obtain ⟨b1, o1, pv1, rfl, hb1, q1, q2, q3⟩ := HCo.out k c hc
      obtain ⟨ppa, ppc, rfl, -, -, -⟩ := q3.out
      rw [bv_length] at q2
      obtain ⟨b2, o2, rfl, hb2, q4⟩ := HSo.out k (by rw [HZ.out, HD4.out]; exact hlt)
      have q5 := (q4 k (by rw [HZ.out, HD4.out]; exact hlt)).trans (u64v_get _ _ _ hz)
      have HFw := Lib.hid ((FA.trans0 HF1.out).trans0 F)
      have d0 := (HFw.out.cell (p := ⟨b1, o1 + k * 2, none⟩) hb1 (by simp)).trans q1
      have d1 := (HFw.out.cell (p := ⟨b1, o1 + k * 2 + 1, none⟩) hb1 (by simp)).trans q2
      obtain ⟨n0, n1, n2, n3, n4, n5⟩ := HBX.out _ (HF1.out.trans0 F)
      have HST := Lib.hid (fun h => coAll_take hc hz hA.out h)
      have HBad := Lib.hid (fun h => mayFol_co hc hz h)
      have HCK := Lib.hid (show coOk c z = (!(decide (ins c.method = 0)) && decide (c.props.length ≤ 65536) && decide (z.toNat ≤ 1099511627776)) from rfl)
      have HF := Lib.hid F
      have hil := ins_le c.method
      have hltI : (k : Int) < (N : Int) := by omega
      have hltZ : (k : Int) < (Z : Int) := by have := HD4.out; omega
      obtain ⟨wC, hwC⟩ : ∃ wC, wC = wr.alloc (.cells #[.int .i64 c.method, .slice ppa c.props.length ppc] 48) := ⟨_, rfl⟩
      have FC : Fr [] wr wC := hwC ▸ (Fr.refl _ _).alloc _
      have HBC := Lib.hid (fun wx (F2 : Fr [] wC wx) => wbox2 (hwC ▸ F2 : Fr [] (wr.alloc (.cells #[.int .i64 c.method, .slice ppa c.props.length ppc] 48)) wx) (by simp))
      have HKeep := Lib.hid (fun wx (F2 : Fr [] wC wx) => (show wx.cell? ⟨b2, o2 + k, none⟩ = some (.int .u64 z.toNat) from ((HFw.out.trans0 (FC.trans0 F2)).cell (p := ⟨b2, o2 + k, none⟩) hb2 (by simp)).trans q5))
      have HKB := Lib.hid (fun wx (F2 : Fr [] wC wx) => HBX.out wx (HF1.out.trans0 (HF.out.trans0 (FC.trans0 F2))))
      clear hc hz q1 q2 q3 q4 q5 hA F
      by_cases e0 : ins c.method = 0
      · have HE := Lib.hid (HBad.out (by rw [HCK.out, decide_eq_true e0]; rfl))
        have t0 : ((ins c.method : Int) == 0) = true := by rw [e0]; rfl
        clear e0
        go_wp2_with (go_at_call 62; rw [← hwC]; refine (ins_any _ _ _).mono ?_; rintro e w3 ⟨rfl, F3⟩)
        go_ret
        exact ⟨by rw [HE.out]; rfl, HFw.out.trans0 (FC.trans0 F3)⟩
      have t0 : ((ins c.method : Int) == 0) = false := by rw [beq_eq_false_iff_ne]; omega
      have HE0 := Lib.hid (decide_eq_false e0)
      clear e0
      by_cases e1 : c.props.length ≤ 65536
      rotate_left
      · have HE := Lib.hid (HBad.out (by rw [HCK.out, decide_eq_false e1]; simp))
        have t1 : (65536 : Int) < (c.props.length : Int) := by omega
        clear e1
        go_wp2_with (go_at_call 62; rw [← hwC]; refine (ins_any _ _ _).mono ?_; rintro e w3 ⟨rfl, F3⟩; obtain ⟨j0, j1⟩ := HBC.out _ F3)
        go_ret
        exact ⟨by rw [HE.out]; rfl, HFw.out.trans0 (FC.trans0 F3)⟩
      have t1 : (c.props.length : Int) ≤ (65536 : Int) := by omega
      by_cases e2 : z.toNat ≤ 1099511627776
      rotate_left
      · have HE := Lib.hid (HBad.out (by rw [HCK.out, decide_eq_false e2]; simp))
        have t2 : (1099511627776 : Int) < (z.toNat : Int) := by omega
        clear e1 e2
        go_wp2_with (go_at_call 62; rw [← hwC]; refine (ins_any _ _ _).mono ?_; rintro e w3 ⟨rfl, F3⟩; obtain ⟨j0, j1⟩ := HBC.out _ F3; obtain ⟨n0, n1, n2, n3, n4, n5⟩ := HKB.out _ F3; have d2 := HKeep.out _ F3)
        go_ret
        exact ⟨by rw [HE.out]; rfl, HFw.out.trans0 (FC.trans0 F3)⟩
      have t2 : (z.toNat : Int) ≤ (1099511627776 : Int) := by omega
      have HE := Lib.hid (HST.out (by rw [HCK.out, HE0.out, decide_eq_true e1, decide_eq_true e2]; rfl))
      clear e1 e2
      go_wp2_with (go_at_call 62; rw [← hwC]; refine (ins_any _ _ _).mono ?_; rintro e w3 ⟨rfl, F3⟩; obtain ⟨j0, j1⟩ := HBC.out _ F3; obtain ⟨n0, n1, n2, n3, n4, n5⟩ := HKB.out _ F3; have d2 := HKeep.out _ F3)
      go_roundw
      case rel => exact ⟨k + 1, by omega, by go_num, HE.out, HF.out.trans0 (FC.trans0 F3)⟩
      case measure => simp [intOf]; omega
    obtain rfl : k = N := by omega
    have HCA := Lib.hid (show coAll x.f = true by
      have := hA.out
      rw [List.take_of_length_le (by rw [List.length_zip, HN.out, HZ.out, HD4.out]; omega)] at this
      exact this)
    have hge : ∀ c ∈ x.f.coders, ins c.method ≠ 0 := by
      intro c hm
      obtain ⟨j, hj⟩ := List.mem_iff_getElem?.1 hm
      have hjl : j < x.f.coders.length := (List.getElem?_eq_some_iff.1 hj).1
      obtain ⟨z, hz⟩ := some_get x.f.sizes j (by rw [HZ.out, HD4.out, ← HN.out]; exact hjl)
      have := zip_all HCA.out hj hz
      unfold coOk at this
      simp only [Bool.and_eq_true, Bool.not_eq_true', decide_eq_false_iff_not] at this
      exact this.1.1
    have hall := all_ge hge x.f.coders.length (Nat.le_refl _)
    have hall2 := allOf_le x.f
    rw [show x.f.first x.f.coders.length = allOf x.f from rfl] at hall
    rw [HN.out] at hall hall2
    have HAll := Lib.hid (show (k : Nat) ≤ allOf x.f ∧ allOf x.f ≤ 4 * k from ⟨hall, hall2⟩)
    have HInE := Lib.hid (show ∀ wx, Fr [] w wx → Calls Tryd.prog 63 #[.agg #[.slice cao k ccap, .slice bao M bcap, .slice pao Q pcap, .slice sao Z scap, .bool x.ck.has, .int .u32 x.ck.sum.toNat]] wx fun e w' => e = .returned (.int .i64 (allOf x.f : Nat)) ∧ Fr [] wx w' from fun wx F => by
      have := HIn.out wx F
      rw [show x.f.first k = allOf x.f by unfold allOf; rw [HN.out]] at this
      exact this)
    have HFw := Lib.hid ((FA.trans0 HF1.out).trans0 F)
    obtain ⟨n0, n1, n2, n3, n4, n5⟩ := HBX.out _ (HF1.out.trans0 F)
    clear hge hall hall2 HIn hA
    generalize hAA : allOf x.f = AA at *
    have HAA := Lib.hid hAA
    clear hAA
    obtain ⟨hall, hall2⟩ := HAll.out
    have hltI : (k : Int) ≤ (k : Int) := Int.le_refl _
    go_wp2_with (go_at_call 63; refine (HInE.out _ HFw.out).mono ?_; rintro e w4 ⟨rfl, F4⟩; obtain ⟨n0, n1, n2, n3, n4, n5⟩ := HBX.out _ ((HF1.out.trans0 F).trans0 F4))
    have HF4 := Lib.hid ((HF1.out.trans0 F).trans0 F4)
    go_loopw [70] (fun i wr => ∃ m : Nat, m ≤ M ∧ i = .int .i64 m ∧ Hid ((x.f.binds.take m).all (biOk AA k) = true) ∧ Fr [] w4 wr) (fun i _ => M - (intOf i).toNat)
    case atStart => exact ⟨0, Nat.zero_le _, rfl, by show ([] : List (Int × Int)).all _ = true; rfl, Fr.refl _ _⟩
    case round =>
      obtain ⟨m, hm, rfl, hA, F⟩ := hrel
      by_cases hlt : m < M
      · obtain ⟨y, hy⟩ := some_get x.f.binds m (by rw [HM.out]; exact hlt)
        obtain ⟨b1, o1, rfl, hb1, q1, q2⟩ := HBo.out m y hy
        have HFw2 := Lib.hid ((FA.trans0 HF4.out).trans0 F)
        have d0 := (HFw2.out.cell (p := ⟨b1, o1 + m * 2, none⟩) hb1 (by simp)).trans q1
        have d1 := (HFw2.out.cell (p := ⟨b1, o1 + m * 2 + 1, none⟩) hb1 (by simp)).trans q2
        have HST := Lib.hid (show biOk AA k y = true → (x.f.binds.take (m + 1)).all (biOk AA k) = true from fun h => by rw [List.take_add_one, hy, List.all_append, hA.out]; simp [h])
        have HBad := Lib.hid (show biOk AA k y = false → mayFol x = false from fun h => mayFol_bi (List.mem_of_getElem? hy) (by rw [HAA.out, HN.out]; exact h))
        obtain ⟨y1, y2⟩ := y
        have HCK := Lib.hid (show biOk AA k (y1, y2) = (decide (0 ≤ y1) && decide (y1 < AA) && decide (0 ≤ y2) && decide (y2 < k)) from rfl)
        have HF := Lib.hid F
        have hltM : (m : Int) < (M : Int) := by omega
        dsimp only at d0 d1
        clear hy q1 q2 hA F
        by_cases e0 : 0 ≤ y1
        rotate_left
        · have HE := Lib.hid (HBad.out (by rw [HCK.out, decide_eq_false e0]; rfl))
          have t0 : y1 < 0 := by omega
          clear e0
          go_wp2_with fail
          go_ret
          exact ⟨by rw [HE.out]; rfl, HFw2.out.trans0 ((Fr.refl _ _).alloc _)⟩
        by_cases e1 : y1 < AA
        rotate_left
        · have HE := Lib.hid (HBad.out (by rw [HCK.out, decide_eq_false e1]; simp))
          have t1 : (AA : Int) ≤ y1 := by omega
          clear e1
          go_wp2_with fail
          go_ret
          exact ⟨by rw [HE.out]; rfl, HFw2.out.trans0 ((Fr.refl _ _).alloc _)⟩
        by_cases e2 : 0 ≤ y2
        rotate_left
        · have HE := Lib.hid (HBad.out (by rw [HCK.out, decide_eq_false e2]; simp))
          have t1 : y2 < 0 := by omega
          clear e2
          go_wp2_with fail
          go_ret
          exact ⟨by rw [HE.out]; rfl, HFw2.out.trans0 ((Fr.refl _ _).alloc _)⟩
        by_cases e3 : y2 < k
        rotate_left
        · have HE := Lib.hid (HBad.out (by rw [HCK.out, decide_eq_false e3]; simp))
          have t1 : (k : Int) ≤ y2 := by omega
          clear e3
          go_wp2_with fail
          go_ret
          exact ⟨by rw [HE.out]; rfl, HFw2.out.trans0 ((Fr.refl _ _).alloc _)⟩
        have HE := Lib.hid (HST.out (by rw [HCK.out, decide_eq_true e0, decide_eq_true e1, decide_eq_true e2, decide_eq_true e3]; rfl))
        go_wp2_with fail
        go_roundw
        case rel => exact ⟨m + 1, by omega, by go_num, HE.out, HF.out.trans0 ((Fr.refl _ _).alloc _)⟩
        case measure => simp [intOf]; omega
      obtain rfl : m = M := by omega
      have HBA := Lib.hid (show x.f.binds.all (biOk (allOf x.f) x.f.coders.length) = true by
        have := hA.out
        rw [List.take_of_length_le (by rw [HM.out]; exact Nat.le_refl _)] at this
        rw [HAA.out, HN.out]
        exact this)
      obtain ⟨n0, n1, n2, n3, n4, n5⟩ := HBX.out _ (HF4.out.trans0 F)
      have HF5 := Lib.hid (FA.trans0 (HF4.out.trans0 F))
      have hPH : paHead x.f = (decide (Q + m = AA) && x.f.packs.all (paOk AA)) := by unfold paHead; rw [HQ.out, HM.out, HAA.out]
      have HPH := Lib.hid hPH
      have HFX := Lib.hid F
      have h3 := HD3.out
      have hw2 : wrap64 ((AA : Int) - (m : Int)) = ((AA - m : Nat) : Int) := by unfold wrap64; omega
      clear hA hPH F
      by_cases e0 : Q + m = AA
      rotate_left
      · have HE := Lib.hid (mayFol_pa (x := x) (by rw [HPH.out, decide_eq_false e0]; rfl))
        have t0 : ((Q : Int) == (AA : Int) - (m : Int)) = false := by rw [beq_eq_false_iff_ne]; omega
        have t0' : ((Q : Int) != (AA : Int) - (m : Int)) = true := by unfold bne; rw [t0]; rfl
        clear e0 h3
        go_wp2_with fail
        go_ret
        exact ⟨by rw [HE.out]; rfl, HF5.out⟩
      have t0 : ((Q : Int) == (AA : Int) - (m : Int)) = true := by rw [beq_iff_eq]; omega
      have t0' : ((Q : Int) != (AA : Int) - (m : Int)) = false := by unfold bne; rw [t0]; rfl
      have hQ1 : 1 ≤ Q := by omega
      have hne : x.f.packs ≠ [] := fun e => by have := HQ.out; rw [e] at this; simp at this; omega
      have HE0 := Lib.hid e0
      have HMi2 := Lib.hid (HMi.out _ HF5.out hne)
      have HMa2 := Lib.hid (HMa.out _ HF5.out hne)
      have m0 := min_le x.f.packs hne 0
      have m1 := max_lt x.f.packs hne AA
      clear HMi HMa e0 h3
      generalize Lib.minOf x.f.packs = mn at *
      generalize Lib.maxOf x.f.packs = mx at *
      by_cases e1 : 0 ≤ mn
      rotate_left
      · have HE := Lib.hid (mayFol_pa (x := x) (by
          rw [HPH.out, show x.f.packs.all (paOk AA) = false from ?_]
          · simp
          · by_cases h : x.f.packs.all (paOk AA) = true
            · refine (e1 (m0.2 fun z hz => ?_)).elim
              have := List.all_eq_true.1 h z hz
              unfold paOk at this
              simp only [Bool.and_eq_true, decide_eq_true_eq] at this
              exact this.1
            · simpa using h))
        have t1 : mn < 0 := by omega
        clear e1 m0 m1
        go_wp2_with (go_at_call 64; refine HMi2.out.mono ?_; rintro e w6 ⟨rfl, rfl⟩)
        go_ret
        exact ⟨by rw [HE.out]; rfl, HF5.out⟩
      have d3 : decide (mn < 0) = false := decide_eq_false (by omega)
      by_cases e2 : mx < AA
      rotate_left
      · have HE := Lib.hid (mayFol_pa (x := x) (by
          rw [HPH.out, show x.f.packs.all (paOk AA) = false from ?_]
          · simp
          · by_cases h : x.f.packs.all (paOk AA) = true
            · refine (e2 (m1.2 fun z hz => ?_)).elim
              have := List.all_eq_true.1 h z hz
              unfold paOk at this
              simp only [Bool.and_eq_true, decide_eq_true_eq] at this
              exact this.2
            · simpa using h))
        have t2 : decide ((AA : Int) ≤ mx) = true := decide_eq_true (by omega)
        clear e2 m0 m1
        go_wp2_with (first
          | (go_at_call 65; refine HMa2.out.mono ?_; rintro e w6 ⟨rfl, rfl⟩)
          | (go_at_call 64; refine HMi2.out.mono ?_; rintro e w6 ⟨rfl, rfl⟩))
        go_ret
        exact ⟨by rw [HE.out]; rfl, HF5.out⟩
      have HPA := Lib.hid (show paHead x.f = true by
        rw [HPH.out, decide_eq_true HE0.out, show x.f.packs.all (paOk AA) = true from ?_]
        · rfl
        · rw [List.all_eq_true]
          intro z hz
          unfold paOk
          simp only [Bool.and_eq_true, decide_eq_true_eq]
          exact ⟨m0.1 e1 z hz, m1.1 e2 z hz⟩)
      have HE := Lib.hid (mayFol_end HHd.out HCA.out HBA.out HPA.out)
      have d4 : decide ((AA : Int) ≤ mx) = false := decide_eq_false (by omega)
      clear m0 m1
      by_cases e3 : 1 < Q
      · have HE2 := Lib.hid (show mayFol x = true by rw [HE.out]; unfold lonely; rw [HQ.out, decide_eq_true e3]; rfl)
        have t3 : (1 : Int) < (Q : Int) := by omega
        have t3' : decide ((1 : Int) < (Q : Int)) = true := decide_eq_true t3
        clear e3
        go_wp2_with (first
          | (go_at_call 65; refine HMa2.out.mono ?_; rintro e w6 ⟨rfl, rfl⟩)
          | (go_at_call 64; refine HMi2.out.mono ?_; rintro e w6 ⟨rfl, rfl⟩))
        go_quiet (fail)
        go_wp2
        go_ret
        exact ⟨by rw [HE2.out]; rfl, HF5.out.drewN _⟩
      · have hQe : Q = 1 := by omega
        obtain ⟨p0, hp0⟩ := some_get x.f.packs 0 (by rw [HQ.out]; omega)
        obtain ⟨b1, o1, rfl, hb1, q1⟩ := HPo.out 0 (by rw [HQ.out]; omega)
        have q2 := (q1 0 (by rw [HQ.out]; omega)).trans (iv_get _ _ _ hp0)
        have c9 := (HF5.out.cell (p := ⟨b1, o1, none⟩) hb1 (by simp)).trans q2
        have HE2 := Lib.hid (show mayFol x = (p0 == (loneN x.f : Int)) by
          rw [HE.out]
          unfold lonely
          rw [HQ.out, hp0, hQe]
          by_cases h : p0 = (loneN x.f : Int)
          · simp [h]
          · simp [h])
        have HKB := Lib.hid (fun wx (F2 : Fr [] wr wx) => (show wx.cell? ⟨b1, o1, none⟩ = some (.int .i64 p0) from (F2.cell (p := ⟨b1, o1, none⟩) (Nat.lt_of_lt_of_le hb1 HF5.out.size) (by simp)).trans c9))
        have HKX := Lib.hid (fun wx (F2 : Fr [] wr wx) => HBX.out wx (HF4.out.trans0 (HFX.out.trans0 F2)))
        have t3' : decide ((1 : Int) < (Q : Int)) = false := decide_eq_false (by omega)
        have t30 : (0 : Int) < (Q : Int) := by omega
        have t31 : 0 < Q := by omega
        have t32 : decide ((0 : Int) < (Q : Int)) = true := decide_eq_true t30
        have HL2 := Lib.hid (fun wx (F : Fr [] wr wx) => HLo.out wx (HF5.out.trans0 F))
        clear e3 q1 q2 hp0 hQe
        go_wp2_with (first
          | (go_at_call 65; refine HMa2.out.mono ?_; rintro e w6 ⟨rfl, rfl⟩)
          | (go_at_call 64; refine HMi2.out.mono ?_; rintro e w6 ⟨rfl, rfl⟩))
        have G0 := Fr.refl [] wr
        go_region_held3 (fun wx => wx.cell? ⟨w.heap.size, 0, none⟩ = some (.slice cao k ccap) ∧ wx.cell? ⟨w.heap.size, 1, none⟩ = some (.slice bao m bcap) ∧ wx.cell? ⟨w.heap.size, 2, none⟩ = some (.slice (some ⟨b1, o1, none⟩) Q pcap) ∧ wx.cell? ⟨w.heap.size, 3, none⟩ = some (.slice sao Z scap) ∧ wx.cell? ⟨w.heap.size, 4, none⟩ = some (.bool x.ck.has) ∧ wx.cell? ⟨w.heap.size, 5, none⟩ = some (.int .u32 x.ck.sum.toNat) ∧ wx.cell? ⟨b1, o1, none⟩ = some (.int .i64 p0))
          (first
            | (have hq := G1; obtain ⟨g0, g1, g2, g3, g4, g5⟩ := HKX.out _ G1; exact ⟨g0, g1, g2, g3, g4, g5, HKB.out _ G1⟩)
            | (obtain ⟨g0, g1, g2, g3, g4, g5⟩ := HKX.out _ G0; exact ⟨g0, g1, g2, g3, g4, g5, HKB.out _ G0⟩)
            | (obtain ⟨g0, g1, g2, g3, g4, g5⟩ := HKX.out _ G0.drew; exact ⟨g0, g1, g2, g3, g4, g5, HKB.out _ G0.drew⟩)
            | go_keep)
          (first | (go_at_call 66; refine (HL2.out _ G0.drew).mono ?_; rintro e w1 ⟨rfl, F1⟩; have G1 := G0.drew.trans0 F1))
        all_goals
          go_wp2_with fail
          go_ret
          exact ⟨by rw [HE2.out]; rfl, HF5.out.trans0 G1⟩
end Go.Proofs.YtkodindajfdagaaDoor
