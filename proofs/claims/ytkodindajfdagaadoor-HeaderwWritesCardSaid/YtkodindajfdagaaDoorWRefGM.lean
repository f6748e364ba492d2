/- Contract: the reference's folder. No condition but that lengths fit. -/
import Derived.Test.YtkodindajfdagaaDoorWRefFM
import Derived.Test.YtkodindajfdagaaDoorWMayGM
import Derived.Test.YtkodindajfdagaaDoorGAP
import Derived.Deep.RegionHeld3
import Derived.BigQuiet
namespace Go.Proofs.YtkodindajfdagaaDoor
open Go.RowKit

def foSub (x : Fol) (l : List Sub) : Bool := mayFol x && maySub x l
theorem foSub_no {x : Fol} {l : List Sub} (h : mayFol x = false) : foSub x l = false := by unfold foSub; rw [h]; rfl
theorem foSub_no2 {x : Fol} {l : List Sub} (h : maySub x l = false) : foSub x l = false := by unfold foSub; rw [h]; simp
theorem coOk_eq (c : Coder) (z : UInt64) : coOk c z = (decide (1 ≤ c.method) && decide (c.method ≤ 7) && decide (c.props.length ≤ 65536) && decide (z.toNat ≤ 1099511627776)) := by
  unfold coOk
  congr 2
  by_cases h : ins c.method = 0
  · have h2 := (ins_zero _).1 h
    rw [decide_eq_true h]
    by_cases h3 : 1 ≤ c.method
    · have h4 : ¬ c.method ≤ 7 := fun h4 => h2 ⟨h3, h4⟩
      rw [decide_eq_false h4]
      simp
    · rw [decide_eq_false h3]
      rfl
  · have h2 : 1 ≤ c.method ∧ c.method ≤ 7 := by
      by_cases h3 : 1 ≤ c.method ∧ c.method ≤ 7
      · exact h3
      · exact (h ((ins_zero _).2 h3)).elim
    rw [decide_eq_false h, decide_eq_true h2.1, decide_eq_true h2.2]
    rfl

set_option maxRecDepth 100000 in
set_option maxHeartbeats 8000000 in
theorem rfolder_any (w : World) (cv bv' pv sv lv : Value) (x : Fol) (l : List Sub) (hi : Nat) (hf : FoV w cv bv' pv sv x.f) (hcl : x.f.coders.length ≤ 100000) (hbl : x.f.binds.length ≤ 100000) (hpl : x.f.packs.length ≤ 100000) (hl : RowAt w hi 3 lv l.length (sbV l)) (hn : l.length ≤ 1000000) :
    Calls Tryd.prog 19 #[.agg #[cv, bv', pv, sv, .bool x.ck.has, .int .u32 x.ck.sum.toNat], lv] w fun e w' => e = .returned (.bool (foSub x l)) ∧ Fr [] w w' := by
  obtain ⟨cao, ccap, rfl, -, -, co⟩ := hf.co.out
  obtain ⟨bao, bcap, rfl, -, -, bo⟩ := hf.bi.out
  have hpo := hf.pa.out
  rw [iv_length] at hpo
  obtain ⟨pao, pcap, rfl, -, -, po⟩ := hpo
  have hso := hf.si.out
  rw [u64v_length] at hso
  obtain ⟨sao, scap, rfl, -, -, so⟩ := hso
  obtain ⟨lao, lcap, rfl, -, -, -⟩ := hl.out
  have HL := Lib.hid hl
  have HCo := Lib.hid co
  have HBo := Lib.hid bo
  have HPo := Lib.hid po
  have HSo := Lib.hid so
  have HF := Lib.hid hf
  have HLo := Lib.hid (fun wx (F : Fr [] w wx) h => rlone_any wx _ _ _ _ (.bool x.ck.has) (.int .u32 x.ck.sum.toNat) x.f (hf.fr F) hcl hbl h)
  have HIn := Lib.hid (fun wx (F : Fr [] w wx) => rallins_any wx _ x.f (Fo.fr ⟨_, _, _, _, .bool x.ck.has, .int .u32 x.ck.sum.toNat, rfl, hf⟩ F) hcl)
  have HWh := Lib.hid (fun wx (F : Fr [] w wx) (hs : x.f.sizes.length ≤ 100000000) => rwhole_any wx _ x.f (Fo.fr ⟨_, _, _, _, .bool x.ck.has, .int .u32 x.ck.sum.toNat, rfl, hf⟩ F) hcl hbl hs)
  have HFa := Lib.hid (fun wx => rfair_any wx x.ck)
  obtain ⟨N, hN⟩ : ∃ N, x.f.coders.length = N := ⟨_, rfl⟩
  obtain ⟨M, hM⟩ : ∃ M, x.f.binds.length = M := ⟨_, rfl⟩
  obtain ⟨Q, hQ⟩ : ∃ Q, x.f.packs.length = Q := ⟨_, rfl⟩
  obtain ⟨Z, hZ⟩ : ∃ Z, x.f.sizes.length = Z := ⟨_, rfl⟩
  obtain ⟨U, hU⟩ : ∃ U, l.length = U := ⟨_, rfl⟩
  have HN := Lib.hid hN
  have HM := Lib.hid hM
  have HQ := Lib.hid hQ
  have HZ := Lib.hid hZ
  have HU := Lib.hid hU
  rw [hN] at hcl HLo HIn HWh ⊢
  rw [hM] at hbl HLo HIn HWh ⊢
  rw [hQ] at hpl HLo HIn HWh ⊢
  rw [hZ] at HLo HIn HWh ⊢
  rw [hU] at hn HL ⊢
  have hH : foHead x = (decide (1 ≤ N) && decide (N ≤ 8) && decide (M + 1 = N) && decide (Z = N) && ckOk x.ck) := by unfold foHead; rw [hN, hM, hZ]
  have HH := Lib.hid hH
  clear hN hM hQ hZ hU hH hf co bo po so hl
  obtain ⟨wA, hwA⟩ : ∃ wA, wA = w.alloc (.cells #[.slice cao N ccap, .slice bao M bcap, .slice pao Q pcap, .slice sao Z scap, .bool x.ck.has, .int .u32 x.ck.sum.toNat] 46) := ⟨_, rfl⟩
  have FA : Fr [] w wA := hwA ▸ (Fr.refl _ _).alloc _
  have HBX := Lib.hid (fun wx (F2 : Fr [] wA wx) => box6 (hwA ▸ F2 : Fr [] (w.alloc (.cells #[.slice cao N ccap, .slice bao M bcap, .slice pao Q pcap, .slice sao Z scap, .bool x.ck.has, .int .u32 x.ck.sum.toNat] 46)) wx))
  obtain ⟨k0, k1, k2, k3, k4, k5⟩ := HBX.out wA (Fr.refl _ _)
  have hnot : ∀ (x : Bool) (w : World), (Op.unary .not (.bool x)).run Tryd.prog w = .ok (.bool (!x)) w := fun _ _ => rfl
  by_cases h1 : 1 ≤ N
  rotate_left
  · have HE := Lib.hid (foSub_no (l := l) (mayFol_head (x := x) (by rw [HH.out, decide_eq_false h1]; rfl)))
    have t1 : decide ((N : Int) < 1) = true := decide_eq_true (by omega)
    go_enter Tryd.func19, Tryd.ntmps19
    go_wp2_with fail
    go_ret
    exact ⟨by rw [HE.out]; rfl, (Fr.refl _ _).alloc _⟩
  have d1 : decide ((N : Int) < 1) = false := decide_eq_false (by omega)
  by_cases h2 : N ≤ 8
  rotate_left
  · have HE := Lib.hid (foSub_no (l := l) (mayFol_head (x := x) (by rw [HH.out, decide_eq_false h2]; simp)))
    have t1 : decide ((8 : Int) < (N : Int)) = true := decide_eq_true (by omega)
    go_enter Tryd.func19, Tryd.ntmps19
    go_wp2_with fail
    go_ret
    exact ⟨by rw [HE.out]; rfl, (Fr.refl _ _).alloc _⟩
  have d2 : decide ((8 : Int) < (N : Int)) = false := decide_eq_false (by omega)
  have hsub : wrap64 ((N : Int) - 1) = ((N - 1 : Nat) : Int) := by unfold wrap64; omega
  by_cases h3 : M + 1 = N
  rotate_left
  · have HE := Lib.hid (foSub_no (l := l) (mayFol_head (x := x) (by rw [HH.out, decide_eq_false h3]; simp)))
    have t1 : ((M : Int) == (N : Int) - 1) = false := by rw [beq_eq_false_iff_ne]; omega
    have t1' : ((M : Int) != (N : Int) - 1) = true := by unfold bne; rw [t1]; rfl
    go_enter Tryd.func19, Tryd.ntmps19
    go_wp2_with fail
    go_ret
    exact ⟨by rw [HE.out]; rfl, (Fr.refl _ _).alloc _⟩
  have t3 : ((M : Int) == (N : Int) - 1) = true := by rw [beq_iff_eq]; omega
  have t3' : ((M : Int) != (N : Int) - 1) = false := by unfold bne; rw [t3]; rfl
  by_cases h4 : Z = N
  rotate_left
  · have HE := Lib.hid (foSub_no (l := l) (mayFol_head (x := x) (by rw [HH.out, decide_eq_false h4]; simp)))
    have t1 : ((Z : Int) == (N : Int)) = false := by rw [beq_eq_false_iff_ne]; omega
    have t1' : ((Z : Int) != (N : Int)) = true := by unfold bne; rw [t1]; rfl
    have HD := Lib.hid h3
    clear h3 h4
    go_enter Tryd.func19, Tryd.ntmps19
    go_wp2_with fail
    go_ret
    exact ⟨by rw [HE.out]; rfl, (Fr.refl _ _).alloc _⟩
  have t4 : ((Z : Int) == (N : Int)) = true := by rw [beq_iff_eq]; omega
  have t4' : ((Z : Int) != (N : Int)) = false := by unfold bne; rw [t4]; rfl
  have HD3 := Lib.hid h3
  have HD4 := Lib.hid h4
  clear h3 h4
  by_cases h5 : ckOk x.ck = true
  rotate_left
  · have h5' : ckOk x.ck = false := by simpa using h5
    have HE := Lib.hid (foSub_no (l := l) (mayFol_head (x := x) (by rw [HH.out, h5']; simp)))
    rw [h5'] at HFa
    clear h5 h5' HH
    go_enter Tryd.func19, Tryd.ntmps19
    go_wp2_with (go_at_call 18; refine (HFa.out _).mono ?_; rintro e w1 ⟨rfl, F1⟩)
    rw [← hwA] at F1
    go_ret
    exact ⟨by rw [HE.out]; rfl, FA.trans0 F1⟩
  have HHd := Lib.hid (show foHead x = true by rw [HH.out, decide_eq_true (by omega : 1 ≤ N), decide_eq_true h2, decide_eq_true HD3.out, decide_eq_true HD4.out, h5]; rfl)
  rw [h5] at HFa
  clear h5 HH
  by_cases h6 : U = 0
  · have HE := Lib.hid (foSub_no2 (x := x) (l := l) (by unfold maySub; rw [decide_eq_true (List.eq_nil_of_length_eq_zero (HU.out.trans h6))]; rfl))
    have t6 : ((U : Int) == 0) = true := by rw [beq_iff_eq]; omega
    clear h6
    go_enter Tryd.func19, Tryd.ntmps19
    go_wp2_with (go_at_call 18; refine (HFa.out _).mono ?_; rintro e w1 ⟨rfl, F1⟩)
    rw [← hwA] at F1
    go_ret
    exact ⟨by rw [HE.out]; rfl, FA.trans0 F1⟩
  have t6 : ((U : Int) == 0) = false := by rw [beq_eq_false_iff_ne]; omega
  have HU0 := Lib.hid h6
  clear h6
  go_enter Tryd.func19, Tryd.ntmps19
  go_wp2_with (go_at_call 18; rw [← hwA]; refine (HFa.out _).mono ?_; rintro e w1 ⟨rfl, F1⟩; obtain ⟨l0, l1, l2, l3, l4, l5⟩ := HBX.out w1 F1)
  clear hwA k0 k1 k2 k3 k4 k5 t3 t3' t4 t4' t6
  have HF1 := Lib.hid F1
  go_loopw [6] (fun i wr => ∃ k : Nat, k ≤ N ∧ i = .int .i64 k ∧ Hid (((x.f.coders.zip x.f.sizes).take k).all (fun x => coOk x.1 x.2) = true) ∧ Fr [] w1 wr) (fun i _ => N - (intOf i).toNat)
  case atStart => exact ⟨0, Nat.zero_le _, rfl, by show ([] : List (Coder × UInt64)).all _ = true; rfl, Fr.refl _ _⟩
  case round =>
    obtain ⟨k, hk, rfl, hA, F⟩ := hrel
    by_cases hlt : k < N
    · obtain ⟨c, hc⟩ := some_get x.f.coders k (by rw [HN.out]; exact hlt)
      obtain ⟨z, hz⟩ := some_get x.f.sizes k (by rw [HZ.out, HD4.out]; exact hlt)
      obtain ⟨b1, o1, pv1, rfl, hb1, q1, q2, q3⟩ := HCo.out k c hc
      have hq3 := q3.out
      rw [bv_length] at hq3
      obtain ⟨ppa, ppc, rfl, -, -, -⟩ := hq3
      obtain ⟨b2, o2, rfl, hb2, q4⟩ := HSo.out k (by rw [HZ.out, HD4.out]; exact hlt)
      have q5 := (q4 k (by rw [HZ.out, HD4.out]; exact hlt)).trans (u64v_get _ _ _ hz)
      have HFw := Lib.hid ((FA.trans0 HF1.out).trans0 F)
      have e1 := (HFw.out.cell (p := ⟨b1, o1 + k * 2, none⟩) hb1 (by simp)).trans q1
      have e2 := (HFw.out.cell (p := ⟨b1, o1 + k * 2 + 1, none⟩) hb1 (by simp)).trans q2
      have e3 := (HFw.out.cell (p := ⟨b2, o2 + k, none⟩) hb2 (by simp)).trans q5
      obtain ⟨n0, n1, n2, n3, n4, n5⟩ := HBX.out _ (HF1.out.trans0 F)
      have HST := Lib.hid (fun h => coAll_take hc hz hA.out h)
      have HBad := Lib.hid (fun h => foSub_no (l := l) (mayFol_co hc hz h))
      have HCK := Lib.hid (coOk_eq c z)
      have HF := Lib.hid F
      have hltI : (k : Int) < (N : Int) := by omega
      have hltZ : (k : Int) < (Z : Int) := by have := HD4.out; omega
      clear hc hz q1 q2 q3 q4 q5 hA F
      by_cases g0 : 1 ≤ c.method
      rotate_left
      · have HE := Lib.hid (HBad.out (by rw [HCK.out, decide_eq_false g0]; rfl))
        have t0 : decide (c.method < 1) = true := decide_eq_true (by omega)
        clear g0
        go_wp2_with fail
        go_ret
        exact ⟨by rw [HE.out]; rfl, HFw.out⟩
      have t0 : decide (c.method < 1) = false := decide_eq_false (by omega)
      by_cases g1 : c.method ≤ 7
      rotate_left
      · have HE := Lib.hid (HBad.out (by rw [HCK.out, decide_eq_false g1]; simp))
        have t1 : decide (7 < c.method) = true := decide_eq_true (by omega)
        clear g0 g1
        go_wp2_with fail
        go_ret
        exact ⟨by rw [HE.out]; rfl, HFw.out⟩
      have t1 : decide (7 < c.method) = false := decide_eq_false (by omega)
      have HG := Lib.hid (show (decide (1 ≤ c.method) && decide (c.method ≤ 7)) = true by rw [decide_eq_true g0, decide_eq_true g1]; rfl)
      clear g0 g1
      by_cases g2 : c.props.length ≤ 65536
      rotate_left
      · have HE := Lib.hid (HBad.out (by rw [HCK.out, decide_eq_false g2]; simp))
        have t2 : decide ((65536 : Int) < (c.props.length : Int)) = true := decide_eq_true (by omega)
        clear g2
        go_wp2_with fail
        go_ret
        exact ⟨by rw [HE.out]; rfl, HFw.out⟩
      have t2 : decide ((65536 : Int) < (c.props.length : Int)) = false := decide_eq_false (by omega)
      by_cases g3 : z.toNat ≤ 1099511627776
      rotate_left
      · have HE := Lib.hid (HBad.out (by rw [HCK.out, decide_eq_false g3]; simp))
        have t5 : decide ((1099511627776 : Int) < (z.toNat : Int)) = true := decide_eq_true (by omega)
        clear g2 g3
        go_wp2_with fail
        go_ret
        exact ⟨by rw [HE.out]; rfl, HFw.out⟩
      have t5 : decide ((1099511627776 : Int) < (z.toNat : Int)) = false := decide_eq_false (by omega)
      have HE := Lib.hid (HST.out (by rw [HCK.out, HG.out, decide_eq_true g2, decide_eq_true g3]; rfl))
      clear g2 g3
      go_wp2_with fail
      go_roundw
      case rel => exact ⟨k + 1, by omega, by go_num, HE.out, HF.out⟩
      case measure => simp [intOf]; omega
    obtain rfl : k = N := by omega
    have HCA := Lib.hid (show coAll x.f = true by
      have := hA.out
      rw [List.take_of_length_le (by rw [List.length_zip, HN.out, HZ.out, HD4.out]; omega)] at this
      exact this)
    have hge : ∀ c ∈ x.f.coders, ins c.method ≠ 0 := by
      intro c hm
      obtain ⟨j, hj⟩ := List.mem_iff_getElem?.1 hm
      have hjl : j < x.f.coders.length := (List.getElem?_eq_some_iff.1 hj).1
      obtain ⟨z, hz⟩ := some_get x.f.sizes j (by rw [HZ.out, HD4.out, ← HN.out]; exact hjl)
      have := zip_all HCA.out hj hz
      unfold coOk at this
      simp only [Bool.and_eq_true, Bool.not_eq_true', decide_eq_false_iff_not] at this
      exact this.1.1
    have hall := all_ge hge x.f.coders.length (Nat.le_refl _)
    have hall2 := allOf_le x.f
    rw [show x.f.first x.f.coders.length = allOf x.f from rfl] at hall
    rw [HN.out] at hall hall2
    have HAll := Lib.hid (show (k : Nat) ≤ allOf x.f ∧ allOf x.f ≤ 4 * k from ⟨hall, hall2⟩)
    have HFw := Lib.hid ((FA.trans0 HF1.out).trans0 F)
    obtain ⟨n0, n1, n2, n3, n4, n5⟩ := HBX.out _ (HF1.out.trans0 F)
    clear hge hall hall2 hA
    generalize hAA : allOf x.f = AA at *
    have HAA := Lib.hid hAA
    clear hAA
    obtain ⟨hall, hall2⟩ := HAll.out
    have hltI : (k : Int) ≤ (k : Int) := Int.le_refl _
    go_wp2_with (go_at_call 43; refine (HIn.out _ HFw.out).mono ?_; rintro e w4 ⟨rfl, F4⟩)
    have HF4 := Lib.hid ((HF1.out.trans0 F).trans0 F4)
    clear n0 n1 n2 n3 n4 n5 l0 l1 l2 l3 l4 l5
    go_loopw [8] (fun i wr => ∃ m : Nat, m ≤ M ∧ i = .int .i64 m ∧ Hid ((x.f.binds.take m).all (biOk AA k) = true) ∧ Fr [] w4 wr) (fun i _ => M - (intOf i).toNat)
    case atStart => exact ⟨0, Nat.zero_le _, rfl, by show ([] : List (Int × Int)).all _ = true; rfl, Fr.refl _ _⟩
    case round =>
      obtain ⟨m, hm, rfl, hA, F⟩ := hrel
      obtain ⟨n0, n1, n2, n3, n4, n5⟩ := HBX.out _ (HF4.out.trans0 F)
      by_cases hlt : m < M
      · obtain ⟨y, hy⟩ := some_get x.f.binds m (by rw [HM.out]; exact hlt)
        obtain ⟨b1, o1, rfl, hb1, q1, q2⟩ := HBo.out m y hy
        have HFw2 := Lib.hid ((FA.trans0 HF4.out).trans0 F)
        have d0 := (HFw2.out.cell (p := ⟨b1, o1 + m * 2, none⟩) hb1 (by simp)).trans q1
        have d1 := (HFw2.out.cell (p := ⟨b1, o1 + m * 2 + 1, none⟩) hb1 (by simp)).trans q2
        have HST := Lib.hid (show biOk AA k y = true → (x.f.binds.take (m + 1)).all (biOk AA k) = true from fun h => by rw [List.take_add_one, hy, List.all_append, hA.out]; simp [h])
        have HBad := Lib.hid (show biOk AA k y = false → foSub x l = false from fun h => foSub_no (mayFol_bi (List.mem_of_getElem? hy) (by rw [HAA.out, HN.out]; exact h)))
        obtain ⟨y1, y2⟩ := y
        have HCK := Lib.hid (show biOk AA k (y1, y2) = (decide (0 ≤ y1) && decide (y1 < AA) && decide (0 ≤ y2) && decide (y2 < k)) from rfl)
        have HF := Lib.hid F
        have hltM : (m : Int) < (M : Int) := by omega
        dsimp only at d0 d1
        clear hy q1 q2 hA F
        by_cases e0 : 0 ≤ y1
        rotate_left
        · have HE := Lib.hid (HBad.out (by rw [HCK.out, decide_eq_false e0]; rfl))
          have t0 : decide (y1 < 0) = true := decide_eq_true (by omega)
          clear e0
          go_wp2_with fail
          go_ret
          exact ⟨by rw [HE.out]; rfl, HFw2.out⟩
        have t0 : decide (y1 < 0) = false := decide_eq_false (by omega)
        by_cases e1 : y1 < AA
        rotate_left
        · have HE := Lib.hid (HBad.out (by rw [HCK.out, decide_eq_false e1]; simp))
          have t1 : decide ((AA : Int) ≤ y1) = true := decide_eq_true (by omega)
          clear e0 e1
          go_wp2_with fail
          go_ret
          exact ⟨by rw [HE.out]; rfl, HFw2.out⟩
        have t1 : decide ((AA : Int) ≤ y1) = false := decide_eq_false (by omega)
        by_cases e2 : 0 ≤ y2
        rotate_left
        · have HE := Lib.hid (HBad.out (by rw [HCK.out, decide_eq_false e2]; simp))
          have t2 : decide (y2 < 0) = true := decide_eq_true (by omega)
          clear e0 e1 e2
          go_wp2_with fail
          go_ret
          exact ⟨by rw [HE.out]; rfl, HFw2.out⟩
        have t2 : decide (y2 < 0) = false := decide_eq_false (by omega)
        by_cases e3 : y2 < k
        rotate_left
        · have HE := Lib.hid (HBad.out (by rw [HCK.out, decide_eq_false e3]; simp))
          have t3 : decide ((k : Int) ≤ y2) = true := decide_eq_true (by omega)
          clear e0 e1 e2 e3
          go_wp2_with fail
          go_ret
          exact ⟨by rw [HE.out]; rfl, HFw2.out⟩
        have t3 : decide ((k : Int) ≤ y2) = false := decide_eq_false (by omega)
        have HE := Lib.hid (HST.out (by rw [HCK.out, decide_eq_true e0, decide_eq_true e1, decide_eq_true e2, decide_eq_true e3]; rfl))
        clear e0 e1 e2 e3
        go_wp2_with fail
        go_roundw
        case rel => exact ⟨m + 1, by omega, by go_num, HE.out, HF.out⟩
        case measure => simp [intOf]; omega
      obtain rfl : m = M := by omega
      have HBA := Lib.hid (show x.f.binds.all (biOk (allOf x.f) x.f.coders.length) = true by
        have := hA.out
        rw [List.take_of_length_le (by rw [HM.out]; exact Nat.le_refl _)] at this
        rw [HAA.out, HN.out]
        exact this)
      have HF5 := Lib.hid (FA.trans0 (HF4.out.trans0 F))
      have hPH : paHead x.f = (decide (Q + m = AA) && x.f.packs.all (paOk AA)) := by unfold paHead; rw [HQ.out, HM.out, HAA.out]
      have HPH := Lib.hid hPH
      have h3 := HD3.out
      have hw2 : wrap64 ((AA : Int) - (m : Int)) = ((AA - m : Nat) : Int) := by unfold wrap64; omega
      clear hA hPH
      by_cases e0 : Q + m = AA
      rotate_left
      · have HE := Lib.hid (foSub_no (l := l) (mayFol_pa (x := x) (by rw [HPH.out, decide_eq_false e0]; rfl)))
        have t0 : ((Q : Int) == (AA : Int) - (m : Int)) = false := by rw [beq_eq_false_iff_ne]; omega
        have t0' : ((Q : Int) != (AA : Int) - (m : Int)) = true := by unfold bne; rw [t0]; rfl
        clear e0 h3
        go_wp2_with fail
        go_ret
        exact ⟨by rw [HE.out]; rfl, HF5.out⟩
      have t0 : ((Q : Int) == (AA : Int) - (m : Int)) = true := by rw [beq_iff_eq]; omega
      have t0' : ((Q : Int) != (AA : Int) - (m : Int)) = false := by unfold bne; rw [t0]; rfl
      have hQ1 : 1 ≤ Q := by omega
      have HE0 := Lib.hid e0
      have HMA := Lib.hid (show m < AA by omega)
      rename World => w5
      go_wp2_with fail
      clear e0 h3 t0 t0' n0 n1 n2 n3 n4 n5
      have HF6 := Lib.hid (HF4.out.trans0 F)
      go_loopw [9] (fun i wr => ∃ q : Nat, q ≤ Q ∧ i = .int .i64 q ∧ Hid ((x.f.packs.take q).all (paOk AA) = true) ∧ Fr [] w5 wr) (fun i _ => Q - (intOf i).toNat)
      case atStart => exact ⟨0, Nat.zero_le _, rfl, by show ([] : List Int).all _ = true; rfl, Fr.refl _ _⟩
      case round =>
        obtain ⟨q, hq, rfl, hA, F⟩ := hrel
        obtain ⟨n0, n1, n2, n3, n4, n5⟩ := HBX.out _ (HF6.out.trans0 F)
        have HFw3 := Lib.hid (FA.trans0 (HF6.out.trans0 F))
        by_cases hlt : q < Q
        · obtain ⟨y, hy⟩ := some_get x.f.packs q (by rw [HQ.out]; exact hlt)
          obtain ⟨b1, o1, rfl, hb1, q1⟩ := HPo.out q (by rw [HQ.out]; exact hlt)
          have q2 := (q1 q (by rw [HQ.out]; exact hlt)).trans (iv_get _ _ _ hy)
          have d0 := (HFw3.out.cell (p := ⟨b1, o1 + q, none⟩) hb1 (by simp)).trans q2
          have HST := Lib.hid (show paOk AA y = true → (x.f.packs.take (q + 1)).all (paOk AA) = true from fun h => by rw [List.take_add_one, hy, List.all_append, hA.out]; simp [h])
          have HBad := Lib.hid (show paOk AA y = false → foSub x l = false from fun h => foSub_no (mayFol_pa (by
            rw [HPH.out, show x.f.packs.all (paOk AA) = false from by rw [List.all_eq_false]; exact ⟨y, List.mem_of_getElem? hy, by simp [h]⟩]
            simp)))
          have HCK := Lib.hid (show paOk AA y = (decide (0 ≤ y) && decide (y < AA)) from rfl)
          have HF := Lib.hid F
          have hltQ : (q : Int) < (Q : Int) := by omega
          clear hy q1 q2 hA F
          by_cases e0 : 0 ≤ y
          rotate_left
          · have HE := Lib.hid (HBad.out (by rw [HCK.out, decide_eq_false e0]; rfl))
            have t0 : decide (y < 0) = true := decide_eq_true (by omega)
            clear e0
            go_wp2_with fail
            go_ret
            exact ⟨by rw [HE.out]; rfl, HFw3.out⟩
          have t0 : decide (y < 0) = false := decide_eq_false (by omega)
          by_cases e1 : y < AA
          rotate_left
          · have HE := Lib.hid (HBad.out (by rw [HCK.out, decide_eq_false e1]; simp))
            have t1 : decide ((AA : Int) ≤ y) = true := decide_eq_true (by omega)
            clear e0 e1
            go_wp2_with fail
            go_ret
            exact ⟨by rw [HE.out]; rfl, HFw3.out⟩
          have t1 : decide ((AA : Int) ≤ y) = false := decide_eq_false (by omega)
          have HE := Lib.hid (HST.out (by rw [HCK.out, decide_eq_true e0, decide_eq_true e1]; rfl))
          clear e0 e1
          go_wp2_with fail
          go_roundw
          case rel => exact ⟨q + 1, by omega, by go_num, HE.out, HF.out⟩
          case measure => simp [intOf]; omega
        obtain rfl : q = Q := by omega
        have HPA := Lib.hid (show paHead x.f = true by
          have := hA.out
          rw [List.take_of_length_le (by rw [HQ.out]; exact Nat.le_refl _)] at this
          rw [HPH.out, decide_eq_true HE0.out, this]
          rfl)
        have HLn := Lib.hid (mayFol_end HHd.out HCA.out HBA.out HPA.out)
        have HFX := Lib.hid (HF6.out.trans0 F)
        have HWh2 := Lib.hid (fun wx F => HWh.out wx F (by have := HD4.out; omega))
        obtain ⟨W0, hW0⟩ : ∃ W0, (wholeOf x.f).toNat = W0 := ⟨_, rfl⟩
        have HMS := Lib.hid (show maySub x l = (!(decide (l = [])) && decide (subsGo W0 l = some 0) && subsEnd x l) by unfold maySub; rw [hW0])
        have hWl : W0 < 18446744073709551616 := hW0 ▸ (wholeOf x.f).toNat_lt
        rw [hW0] at HWh2
        clear hW0 HWh hA
        by_cases e3 : q = 1
        rotate_left
        · have HMF := Lib.hid (show mayFol x = true by rw [HLn.out]; unfold lonely; rw [HQ.out, decide_eq_true (by omega : 1 < q)]; rfl)
          have t1 : ((q : Int) == 1) = false := by rw [beq_eq_false_iff_ne]; omega
          clear e3 F
          go_wp2_with fail
          go_quiet (fail)
          rename Nat => nq
          have GG := HFX.out.drewN nq
          obtain ⟨n0, n1, n2, n3, n4, n5⟩ := HBX.out _ GG
          have HGG := Lib.hid (FA.trans0 GG)
          clear t1
          go_wp2_with (go_at_call 45; refine (HWh2.out _ HGG.out).mono ?_; rintro e w8 ⟨rfl, F8⟩)
          have HF8 := Lib.hid (GG.trans0 F8)
          clear n0 n1 n2 n3 n4 n5 GG F8
          go_loopw [10, 11] (fun v5 v12 wr => ∃ j z : Nat, j ≤ U ∧ z < 18446744073709551616 ∧ v12 = .int .i64 j ∧ v5 = .int .u64 (z : Int) ∧ Hid (subsGo W0 l = subsGo z (l.drop j)) ∧ Fr [] w8 wr) (fun _ i _ => U - (intOf i).toNat)
          case atStart => exact ⟨0, W0, Nat.zero_le _, hWl, rfl, rfl, by show subsGo W0 l = subsGo W0 (l.drop 0); rfl, Fr.refl _ _⟩
          case round =>
            obtain ⟨j, z, hj, hz, rfl, rfl, hs, F⟩ := hrel
            obtain ⟨n0, n1, n2, n3, n4, n5⟩ := HBX.out _ (HF8.out.trans0 F)
            have HFw := Lib.hid (FA.trans0 (HF8.out.trans0 F))
            by_cases hlt : j < U
            · obtain ⟨s, hsx⟩ := some_get l j (by rw [HU.out]; exact hlt)
              obtain ⟨b1, o1, hao, hb1, e0, e1, e2⟩ := (HL.out.fr0 HFw.out).sb hsx hlt
              subst hao
              have hdr : l.drop j = s :: l.drop (j + 1) := by
                have := List.drop_eq_getElem_cons (show j < l.length by rw [HU.out]; exact hlt)
                rwa [(List.getElem?_eq_some_iff.1 hsx).2] at this
              have HD := Lib.hid (show subsGo W0 l = if z < s.size.toNat ∨ ckOk s.ck = false then none else subsGo (z - s.size.toNat) (l.drop (j + 1)) by rw [hs.out, hdr]; rfl)
              have HFa := Lib.hid (fun wx => rfair_any wx s.ck)
              have HF := Lib.hid F
              have hltI : (j : Int) < (U : Int) := by omega
              have hzl := s.size.toNat_lt
              clear hsx hdr hs F
              obtain ⟨sz, ck⟩ := s
              dsimp only at e0 e1 e2 HD HFa hzl
              by_cases hgt : z < sz.toNat
              · have HE := Lib.hid (foSub_no2 (x := x) (l := l) (by rw [HMS.out, HD.out, if_pos (.inl hgt)]; simp))
                have u0 : decide ((z : Int) < (sz.toNat : Int)) = true := decide_eq_true (by omega)
                have u0' : decide (z < sz.toNat) = true := decide_eq_true hgt
                clear hgt
                go_wp2_with fail
                go_ret
                exact ⟨by rw [HE.out]; rfl, HFw.out⟩
              have u0 : decide ((z : Int) < (sz.toNat : Int)) = false := decide_eq_false (by omega)
              have u0' : decide (z < sz.toNat) = false := decide_eq_false hgt
              cases hc : ckOk ck with
              | false =>
                have HE := Lib.hid (foSub_no2 (x := x) (l := l) (by rw [HMS.out, HD.out, if_pos (.inr hc)]; simp))
                rw [hc] at HFa
                clear hc hgt
                go_wp2_with (go_at_call 18; refine (HFa.out _).mono ?_; rintro e w3 ⟨rfl, F3⟩)
                go_ret
                exact ⟨by rw [HE.out]; rfl, HFw.out.trans0 F3⟩
              | true =>
                have HE := Lib.hid (show subsGo W0 l = subsGo (z - sz.toNat) (l.drop (j + 1)) by rw [HD.out, if_neg]; rintro (h | h); exact hgt h; rw [hc] at h; cases h)
                rw [hc] at HFa
                have hw1 : IntKind.u64.wrap ((z : Int) - (sz.toNat : Int)) = ((z - sz.toNat : Nat) : Int) := by simp [IntKind.wrap, IntKind.bits, IntKind.signed]; omega
                have hz2 : z - sz.toNat < 18446744073709551616 := by omega
                clear hc hgt HD
                go_wp2_with (go_at_call 18; refine (HFa.out _).mono ?_; rintro e w3 ⟨rfl, F3⟩; obtain ⟨b1', o1', hao', hb1', g0, g1, g2⟩ : ∃ a b, some (⟨b1, o1, none⟩ : Addr) = some ⟨a, b, none⟩ ∧ a < w3.heap.size ∧ w3.cell? ⟨b1, o1 + j * 3, none⟩ = some (.int .u64 sz.toNat) ∧ w3.cell? ⟨b1, o1 + j * 3 + 1, none⟩ = some (.bool ck.has) ∧ w3.cell? ⟨b1, o1 + j * 3 + 2, none⟩ = some (.int .u32 ck.sum.toNat) := ⟨b1, o1, rfl, Nat.lt_of_lt_of_le hb1 F3.size, (F3.cell (p := ⟨b1, o1 + j * 3, none⟩) hb1 (by simp)).trans e0, (F3.cell (p := ⟨b1, o1 + j * 3 + 1, none⟩) hb1 (by simp)).trans e1, (F3.cell (p := ⟨b1, o1 + j * 3 + 2, none⟩) hb1 (by simp)).trans e2⟩; clear hao' hb1')
                go_roundw
                case rel => exact ⟨j + 1, z - sz.toNat, by omega, hz2, by go_num, by first | rfl | (congr 1; omega) | (simp <;> omega), HE.out, HF.out.trans0 F3⟩
                case measure => simp [intOf]; omega
            obtain rfl : j = U := by omega
            have HE := Lib.hid (show foSub x l = (decide (z = 0) && subsEnd x l) by
              unfold foSub
              rw [HMF.out, HMS.out, hs.out, subsGo_nil (by rw [HU.out]; exact Nat.le_refl _), decide_eq_false (fun e : l = [] => HU0.out (by rw [← HU.out, e]; rfl))]
              simp)
            clear hs
            by_cases e1 : z = 0
            rotate_left
            · have HE2 := Lib.hid (show foSub x l = false by rw [HE.out, decide_eq_false e1]; rfl)
              have u1 : ((z : Int) == 0) = false := by rw [beq_eq_false_iff_ne]; omega
              clear e1
              go_wp2_with fail
              go_quiet (fail)
              go_wp2
              go_ret
              exact ⟨by rw [HE2.out]; rfl, HFw.out.drewN _⟩
            have u1 : ((z : Int) == 0) = true := by rw [beq_iff_eq]; omega
            have HE2 := Lib.hid (show foSub x l = subsEnd x l by rw [HE.out, decide_eq_true e1]; rfl)
            clear e1 HE
            have hj0 := HU0.out
            by_cases e2 : 1 < j
            · have HE3 := Lib.hid (show foSub x l = true by rw [HE2.out]; unfold subsEnd; rw [HU.out, decide_eq_true e2]; rfl)
              have u2 : decide ((1 : Int) < (j : Int)) = true := decide_eq_true (by omega)
              have u2' : decide (1 < j) = true := decide_eq_true (by omega)
              clear e2
              go_wp2_with fail
              go_quiet (fail)
              go_wp2
              go_ret
              exact ⟨by rw [HE3.out]; rfl, HFw.out.drewN _⟩
            have u2 : decide ((1 : Int) < (j : Int)) = false := decide_eq_false (by omega)
            have u2' : decide (1 < j) = false := decide_eq_false (by omega)
            have hpos : 0 < j := by omega
            have u3 : decide ((0 : Int) < (j : Int)) = true := decide_eq_true (by omega)
            obtain ⟨s, hs0⟩ := some_get l 0 (by rw [HU.out]; exact hpos)
            obtain ⟨b1, o1, hao, hb1, e0, e1, e3⟩ := (HL.out.fr0 HFw.out).sb hs0 hpos
            subst hao
            obtain ⟨sz, ⟨sh, sm⟩⟩ := s
            have HE4 := Lib.hid (show foSub x l = (!x.ck.has || ((sh == x.ck.has) && ((sm.toNat : Int) == (x.ck.sum.toNat : Int)))) by
              rw [HE2.out]
              unfold subsEnd
              rw [HU.out, decide_eq_false e2, hs0]
              obtain ⟨xf, ⟨xh, xm⟩⟩ := x
              simp only [Option.map_some, Option.some.injEq, Ck.mk.injEq, Bool.false_or]
              congr 1
              have hmm : (sm.toNat = xm.toNat) ↔ (sm = xm) := UInt32.toNat_inj
              by_cases a : sh = xh
              · by_cases b : sm = xm
                · subst a b; simp
                · have b' : sm.toNat ≠ xm.toNat := fun h => b (hmm.1 h)
                  have b2 : ((sm.toNat : Int) == (xm.toNat : Int)) = false := by rw [beq_eq_false_iff_ne]; omega
                  rw [b2]
                  simp [b]
              · simp [a])
            dsimp only at e0 e1 e3
            have hq := run_eql_ck
            clear hs0 e2 HE2
            generalize hxh : x.ck.has = xh at *
            have HXH := Lib.hid hxh
            clear hxh
            cases xh with
            | false =>
              have HE5 := Lib.hid (show foSub x l = true by rw [HE4.out]; rfl)
              go_wp2_with fail
              go_quiet (fail)
              go_wp2
              go_ret
              exact ⟨by rw [HE5.out]; rfl, HFw.out.drewN _⟩
            | true =>
              have HE5 := Lib.hid (show foSub x l = ((sh == true) && ((sm.toNat : Int) == (x.ck.sum.toNat : Int))) by rw [HE4.out]; rfl)
              go_wp2_with fail
              go_quiet (fail)
              go_wp2
              go_ret
              exact ⟨by rw [HE5.out]; first | rfl | (simp; done), HFw.out.drewN _⟩
        obtain ⟨p0, hp0⟩ := some_get x.f.packs 0 (by rw [HQ.out]; omega)
        obtain ⟨b1, o1, rfl, hb1, q1⟩ := HPo.out 0 (by rw [HQ.out]; omega)
        have q2 := (q1 0 (by rw [HQ.out]; omega)).trans (iv_get _ _ _ hp0)
        have c9 := (HFw3.out.cell (p := ⟨b1, o1, none⟩) hb1 (by simp)).trans q2
        have HMQ := Lib.hid (show mayFol x = (p0 == (loneN x.f : Int)) by
          rw [HLn.out]
          unfold lonely
          rw [HQ.out, hp0, e3]
          by_cases h : p0 = (loneN x.f : Int)
          · simp [h]
          · simp [h])
        have HKB := Lib.hid (fun wx (F2 : Fr [] wr wx) => (show wx.cell? ⟨b1, o1, none⟩ = some (.int .i64 p0) from (F2.cell (p := ⟨b1, o1, none⟩) (Nat.lt_of_lt_of_le hb1 HFw3.out.size) (by simp)).trans c9))
        have HKX := Lib.hid (fun wx (F2 : Fr [] wr wx) => HBX.out wx (HF6.out.trans0 (F.trans0 F2)))
        have t1 : ((q : Int) == 1) = true := by rw [beq_iff_eq]; omega
        have t30 : (0 : Int) < (q : Int) := by omega
        have t31 : 0 < q := by omega
        have t32 : decide ((0 : Int) < (q : Int)) = true := decide_eq_true t30
        have HL2 := Lib.hid (fun wx (F : Fr [] wr wx) => HLo.out wx (HFw3.out.trans0 F) HMA.out)
        clear e3 q1 q2 hp0 F
        generalize loneN x.f = ln at *
        by_cases e4 : p0 = (ln : Int)
        rotate_left
        · have HE := Lib.hid (foSub_no (l := l) (show mayFol x = false by rw [HMQ.out, beq_eq_false_iff_ne]; exact e4))
          have t5 : (p0 == (ln : Int)) = false := by rw [beq_eq_false_iff_ne]; exact e4
          have t5' : (p0 != (ln : Int)) = true := by unfold bne; rw [t5]; rfl
          clear e4
          go_wp2_with fail
          have G0 := Fr.refl [] wr
          go_region_held3 (fun wx => wx.cell? ⟨w.heap.size, 0, none⟩ = some (.slice cao k ccap) ∧ wx.cell? ⟨w.heap.size, 1, none⟩ = some (.slice bao m bcap) ∧ wx.cell? ⟨w.heap.size, 2, none⟩ = some (.slice (some ⟨b1, o1, none⟩) q pcap) ∧ wx.cell? ⟨w.heap.size, 3, none⟩ = some (.slice sao Z scap) ∧ wx.cell? ⟨w.heap.size, 4, none⟩ = some (.bool x.ck.has) ∧ wx.cell? ⟨w.heap.size, 5, none⟩ = some (.int .u32 x.ck.sum.toNat) ∧ wx.cell? ⟨b1, o1, none⟩ = some (.int .i64 p0))
            (first
              | (have hq := G1; obtain ⟨g0, g1, g2, g3, g4, g5⟩ := HKX.out _ G1; exact ⟨g0, g1, g2, g3, g4, g5, HKB.out _ G1⟩)
              | (obtain ⟨g0, g1, g2, g3, g4, g5⟩ := HKX.out _ G0; exact ⟨g0, g1, g2, g3, g4, g5, HKB.out _ G0⟩)
              | (obtain ⟨g0, g1, g2, g3, g4, g5⟩ := HKX.out _ G0.drew; exact ⟨g0, g1, g2, g3, g4, g5, HKB.out _ G0.drew⟩)
              | go_keep)
            (first | (go_at_call 44; refine (HL2.out _ G0.drew).mono ?_; rintro e w1 ⟨rfl, F1⟩; have G1 := G0.drew.trans0 F1))
          all_goals
            go_wp2_with fail
            go_ret
            exact ⟨by rw [HE.out]; rfl, HFw3.out.trans0 G1⟩
        have HMF := Lib.hid (show mayFol x = true by rw [HMQ.out, beq_iff_eq]; exact e4)
        have t5 : (p0 == (ln : Int)) = true := by rw [beq_iff_eq]; exact e4
        have t5' : (p0 != (ln : Int)) = false := by unfold bne; rw [t5]; rfl
        clear e4
        go_wp2_with fail
        have G0 := Fr.refl [] wr
        go_region_held3 (fun wx => wx.cell? ⟨w.heap.size, 0, none⟩ = some (.slice cao k ccap) ∧ wx.cell? ⟨w.heap.size, 1, none⟩ = some (.slice bao m bcap) ∧ wx.cell? ⟨w.heap.size, 2, none⟩ = some (.slice (some ⟨b1, o1, none⟩) q pcap) ∧ wx.cell? ⟨w.heap.size, 3, none⟩ = some (.slice sao Z scap) ∧ wx.cell? ⟨w.heap.size, 4, none⟩ = some (.bool x.ck.has) ∧ wx.cell? ⟨w.heap.size, 5, none⟩ = some (.int .u32 x.ck.sum.toNat) ∧ wx.cell? ⟨b1, o1, none⟩ = some (.int .i64 p0))
          (first
            | (have hq := G1; obtain ⟨g0, g1, g2, g3, g4, g5⟩ := HKX.out _ G1; exact ⟨g0, g1, g2, g3, g4, g5, HKB.out _ G1⟩)
            | (obtain ⟨g0, g1, g2, g3, g4, g5⟩ := HKX.out _ G0; exact ⟨g0, g1, g2, g3, g4, g5, HKB.out _ G0⟩)
            | (obtain ⟨g0, g1, g2, g3, g4, g5⟩ := HKX.out _ G0.drew; exact ⟨g0, g1, g2, g3, g4, g5, HKB.out _ G0.drew⟩)
            | go_keep)
          (first | (go_at_call 44; refine (HL2.out _ G0.drew).mono ?_; rintro e w1 ⟨rfl, F1⟩; have G1 := G0.drew.trans0 F1))
        all_goals
          have GG := HFX.out.trans0 G1
          clear t5 t5' t30 t31 t32
          obtain ⟨n0, n1, n2, n3, n4, n5⟩ := HBX.out _ GG
          have HGG := Lib.hid (FA.trans0 GG)
          clear t1
          go_wp2_with (go_at_call 45; refine (HWh2.out _ HGG.out).mono ?_; rintro e w8 ⟨rfl, F8⟩)
          have HF8 := Lib.hid (GG.trans0 F8)
          clear n0 n1 n2 n3 n4 n5 GG F8
          go_loopw [10, 11] (fun v5 v12 wr => ∃ j z : Nat, j ≤ U ∧ z < 18446744073709551616 ∧ v12 = .int .i64 j ∧ v5 = .int .u64 (z : Int) ∧ Hid (subsGo W0 l = subsGo z (l.drop j)) ∧ Fr [] w8 wr) (fun _ i _ => U - (intOf i).toNat)
          case atStart => exact ⟨0, W0, Nat.zero_le _, hWl, rfl, rfl, by show subsGo W0 l = subsGo W0 (l.drop 0); rfl, Fr.refl _ _⟩
          case round =>
            obtain ⟨j, z, hj, hz, rfl, rfl, hs, F⟩ := hrel
            obtain ⟨n0, n1, n2, n3, n4, n5⟩ := HBX.out _ (HF8.out.trans0 F)
            have HFw := Lib.hid (FA.trans0 (HF8.out.trans0 F))
            by_cases hlt : j < U
            · obtain ⟨s, hsx⟩ := some_get l j (by rw [HU.out]; exact hlt)
              obtain ⟨b1, o1, hao, hb1, e0, e1, e2⟩ := (HL.out.fr0 HFw.out).sb hsx hlt
              subst hao
              have hdr : l.drop j = s :: l.drop (j + 1) := by
                have := List.drop_eq_getElem_cons (show j < l.length by rw [HU.out]; exact hlt)
                rwa [(List.getElem?_eq_some_iff.1 hsx).2] at this
              have HD := Lib.hid (show subsGo W0 l = if z < s.size.toNat ∨ ckOk s.ck = false then none else subsGo (z - s.size.toNat) (l.drop (j + 1)) by rw [hs.out, hdr]; rfl)
              have HFa := Lib.hid (fun wx => rfair_any wx s.ck)
              have HF := Lib.hid F
              have hltI : (j : Int) < (U : Int) := by omega
              have hzl := s.size.toNat_lt
              clear hsx hdr hs F
              obtain ⟨sz, ck⟩ := s
              dsimp only at e0 e1 e2 HD HFa hzl
              by_cases hgt : z < sz.toNat
              · have HE := Lib.hid (foSub_no2 (x := x) (l := l) (by rw [HMS.out, HD.out, if_pos (.inl hgt)]; simp))
                have u0 : decide ((z : Int) < (sz.toNat : Int)) = true := decide_eq_true (by omega)
                have u0' : decide (z < sz.toNat) = true := decide_eq_true hgt
                clear hgt
                go_wp2_with fail
                go_ret
                exact ⟨by rw [HE.out]; rfl, HFw.out⟩
              have u0 : decide ((z : Int) < (sz.toNat : Int)) = false := decide_eq_false (by omega)
              have u0' : decide (z < sz.toNat) = false := decide_eq_false hgt
              cases hc : ckOk ck with
              | false =>
                have HE := Lib.hid (foSub_no2 (x := x) (l := l) (by rw [HMS.out, HD.out, if_pos (.inr hc)]; simp))
                rw [hc] at HFa
                clear hc hgt
                go_wp2_with (go_at_call 18; refine (HFa.out _).mono ?_; rintro e w3 ⟨rfl, F3⟩)
                go_ret
                exact ⟨by rw [HE.out]; rfl, HFw.out.trans0 F3⟩
              | true =>
                have HE := Lib.hid (show subsGo W0 l = subsGo (z - sz.toNat) (l.drop (j + 1)) by rw [HD.out, if_neg]; rintro (h | h); exact hgt h; rw [hc] at h; cases h)
                rw [hc] at HFa
                have hw1 : IntKind.u64.wrap ((z : Int) - (sz.toNat : Int)) = ((z - sz.toNat : Nat) : Int) := by simp [IntKind.wrap, IntKind.bits, IntKind.signed]; omega
                have hz2 : z - sz.toNat < 18446744073709551616 := by omega
                clear hc hgt HD
                go_wp2_with (go_at_call 18; refine (HFa.out _).mono ?_; rintro e w3 ⟨rfl, F3⟩; obtain ⟨b1', o1', hao', hb1', g0, g1, g2⟩ : ∃ a b, some (⟨b1, o1, none⟩ : Addr) = some ⟨a, b, none⟩ ∧ a < w3.heap.size ∧ w3.cell? ⟨b1, o1 + j * 3, none⟩ = some (.int .u64 sz.toNat) ∧ w3.cell? ⟨b1, o1 + j * 3 + 1, none⟩ = some (.bool ck.has) ∧ w3.cell? ⟨b1, o1 + j * 3 + 2, none⟩ = some (.int .u32 ck.sum.toNat) := ⟨b1, o1, rfl, Nat.lt_of_lt_of_le hb1 F3.size, (F3.cell (p := ⟨b1, o1 + j * 3, none⟩) hb1 (by simp)).trans e0, (F3.cell (p := ⟨b1, o1 + j * 3 + 1, none⟩) hb1 (by simp)).trans e1, (F3.cell (p := ⟨b1, o1 + j * 3 + 2, none⟩) hb1 (by simp)).trans e2⟩; clear hao' hb1')
                go_roundw
                case rel => exact ⟨j + 1, z - sz.toNat, by omega, hz2, by go_num, by first | rfl | (congr 1; omega) | (simp <;> omega), HE.out, HF.out.trans0 F3⟩
                case measure => simp [intOf]; omega
            obtain rfl : j = U := by omega
            have HE := Lib.hid (show foSub x l = (decide (z = 0) && subsEnd x l) by
              unfold foSub
              rw [HMF.out, HMS.out, hs.out, subsGo_nil (by rw [HU.out]; exact Nat.le_refl _), decide_eq_false (fun e : l = [] => HU0.out (by rw [← HU.out, e]; rfl))]
              simp)
            clear hs
            by_cases e1 : z = 0
            rotate_left
            · have HE2 := Lib.hid (show foSub x l = false by rw [HE.out, decide_eq_false e1]; rfl)
              have u1 : ((z : Int) == 0) = false := by rw [beq_eq_false_iff_ne]; omega
              clear e1
              go_wp2_with fail
              go_quiet (fail)
              go_wp2
              go_ret
              exact ⟨by rw [HE2.out]; rfl, HFw.out.drewN _⟩
            have u1 : ((z : Int) == 0) = true := by rw [beq_iff_eq]; omega
            have HE2 := Lib.hid (show foSub x l = subsEnd x l by rw [HE.out, decide_eq_true e1]; rfl)
            clear e1 HE
            have hj0 := HU0.out
            by_cases e2 : 1 < j
            · have HE3 := Lib.hid (show foSub x l = true by rw [HE2.out]; unfold subsEnd; rw [HU.out, decide_eq_true e2]; rfl)
              have u2 : decide ((1 : Int) < (j : Int)) = true := decide_eq_true (by omega)
              have u2' : decide (1 < j) = true := decide_eq_true (by omega)
              clear e2
              go_wp2_with fail
              go_quiet (fail)
              go_wp2
              go_ret
              exact ⟨by rw [HE3.out]; rfl, HFw.out.drewN _⟩
            have u2 : decide ((1 : Int) < (j : Int)) = false := decide_eq_false (by omega)
            have u2' : decide (1 < j) = false := decide_eq_false (by omega)
            have hpos : 0 < j := by omega
            have u3 : decide ((0 : Int) < (j : Int)) = true := decide_eq_true (by omega)
            obtain ⟨s, hs0⟩ := some_get l 0 (by rw [HU.out]; exact hpos)
            obtain ⟨b1, o1, hao, hb1, e0, e1, e3⟩ := (HL.out.fr0 HFw.out).sb hs0 hpos
            subst hao
            obtain ⟨sz, ⟨sh, sm⟩⟩ := s
            have HE4 := Lib.hid (show foSub x l = (!x.ck.has || ((sh == x.ck.has) && ((sm.toNat : Int) == (x.ck.sum.toNat : Int)))) by
              rw [HE2.out]
              unfold subsEnd
              rw [HU.out, decide_eq_false e2, hs0]
              obtain ⟨xf, ⟨xh, xm⟩⟩ := x
              simp only [Option.map_some, Option.some.injEq, Ck.mk.injEq, Bool.false_or]
              congr 1
              have hmm : (sm.toNat = xm.toNat) ↔ (sm = xm) := UInt32.toNat_inj
              by_cases a : sh = xh
              · by_cases b : sm = xm
                · subst a b; simp
                · have b' : sm.toNat ≠ xm.toNat := fun h => b (hmm.1 h)
                  have b2 : ((sm.toNat : Int) == (xm.toNat : Int)) = false := by rw [beq_eq_false_iff_ne]; omega
                  rw [b2]
                  simp [b]
              · simp [a])
            dsimp only at e0 e1 e3
            have hq := run_eql_ck
            clear hs0 e2 HE2
            generalize hxh : x.ck.has = xh at *
            have HXH := Lib.hid hxh
            clear hxh
            cases xh with
            | false =>
              have HE5 := Lib.hid (show foSub x l = true by rw [HE4.out]; rfl)
              go_wp2_with fail
              go_quiet (fail)
              go_wp2
              go_ret
              exact ⟨by rw [HE5.out]; rfl, HFw.out.drewN _⟩
            | true =>
              have HE5 := Lib.hid (show foSub x l = ((sh == true) && ((sm.toNat : Int) == (x.ck.sum.toNat : Int))) by rw [HE4.out]; rfl)
              go_wp2_with fail
              go_quiet (fail)
              go_wp2
              go_ret
              exact ⟨by rw [HE5.out]; first | rfl | (simp; done), HFw.out.drewN _⟩
end Go.Proofs.YtkodindajfdagaaDoor
