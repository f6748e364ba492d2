/- Contracts: the reference's AllIns, Whole, Lone, fair. No condition but that lengths fit. -/
import Derived.Test.YtkodindajfdagaaDoorGAO
namespace Go.Proofs.YtkodindajfdagaaDoor
open Go.RowKit

set_option maxRecDepth 100000 in
set_option maxHeartbeats 4000000 in
theorem rallins_any (w : World) (v : Value) (f : Folder) (hf : Fo w v f) (hn : f.coders.length ≤ 100000) :
    Calls Tryd.prog 43 #[v] w fun e w' => e = .returned (.int .i64 (allOf f : Nat)) ∧ Fr [] w w' := by
  obtain ⟨cv, bv', p, s, h, k0, rfl, hV⟩ := hf
  obtain ⟨ao, cap, rfl, -, -, o⟩ := hV.co
  have HO := Lib.hid o
  have hnI : (f.coders.length : Int) ≤ 100000 := by omega
  have HN := Lib.hid hn
  obtain ⟨wB, hwB⟩ : ∃ wB, wB = w.alloc (.cells #[.slice ao f.coders.length cap, bv', p, s, h, k0] 46) := ⟨_, rfl⟩
  have F0 : Fr [] w wB := hwB ▸ (Fr.refl _ _).alloc _
  have HBX := Lib.hid (fun wx (F : Fr [] wB wx) => box6 (hwB ▸ F : Fr [] (w.alloc (.cells #[.slice ao f.coders.length cap, bv', p, s, h, k0] 46)) wx))
  clear hV o hn
  go_enter Tryd.func43, Tryd.ntmps43
  go_wp2_with fail
  rw [← hwB]
  clear hwB
  go_loopw [3, 4] (fun nv iv wr => ∃ k : Nat, k ≤ f.coders.length ∧ iv = .int .i64 (k : Int) ∧ nv = .int .i64 (f.first k : Int) ∧ Fr [] wB wr) (fun _ iv _ => f.coders.length - (intOf iv).toNat)
  case atStart => exact ⟨0, Nat.zero_le _, rfl, rfl, Fr.refl _ _⟩
  case round =>
    obtain ⟨k, hk, rfl, rfl, F⟩ := hrel
    obtain ⟨d0, -⟩ := HBX.out _ F
    by_cases hlt : k < f.coders.length
    rotate_left
    · have hltI : ¬ (k : Int) < (f.coders.length : Int) := by omega
      obtain rfl : k = f.coders.length := by omega
      go_wp2_with fail
      go_ret
      exact ⟨rfl, F0.trans0 F⟩
    have hltI : (k : Int) < (f.coders.length : Int) := by omega
    obtain ⟨c, hc⟩ := some_get f.coders k hlt
    obtain ⟨b, o, pv, rfl, hb, q1, q2, q3⟩ := HO.out k c hc
    have c0 := ((F0.trans0 F).cell (p := ⟨b, o + k * 2, none⟩) hb (by simp)).trans q1
    have c1 := ((F0.trans0 F).cell (p := ⟨b, o + k * 2 + 1, none⟩) hb (by simp)).trans q2
    obtain ⟨pao, pcap, rfl, -, -, -⟩ := q3.out
    have HTk := Lib.hid (f.first_succ k c hc)
    have hil : (f.first k : Int) ≤ 400000 := by
      have h1 := f.first_le k
      omega
    have hi4 : (ins c.method : Int) ≤ 4 := by
      have := ins_le c.method
      omega
    clear hc q1 q2 q3
    generalize f.first k = z at *
    go_wp2_with (go_at_call 70; refine (rins_any _ c.method _).mono ?_; rintro e w3 ⟨rfl, F3⟩)
    go_roundw
    case rel => exact ⟨k + 1, by omega, by go_num, by rw [HTk.out]; first | rfl | (congr 1; omega) | (simp <;> omega), F.trans0 F3⟩
    case measure => simp [intOf]; omega

set_option maxRecDepth 100000 in
set_option maxHeartbeats 1000000 in
theorem rwhole_any (w : World) (v : Value) (f : Folder) (hf : Fo w v f) (hn : f.coders.length ≤ 100000) (hb : f.binds.length ≤ 100000) (hs : f.sizes.length ≤ 100000000) :
    Calls Tryd.prog 45 #[v] w fun e w' => e = .returned (.int .u64 ((wholeOf f).toNat : Int)) ∧ Fr [] w w' := by
  have HF := Lib.hid hf
  have HM := Lib.hid (fun wy h => rmain_any wy v f h hn hb)
  obtain ⟨cv, bv', p, s, h, k0, rfl, hV⟩ := hf
  obtain ⟨sao, scap, rfl, -, -, so⟩ := hV.si.out
  obtain ⟨cao, ccap, rfl, -⟩ := hV.co
  obtain ⟨bao, bcap, rfl, -⟩ := hV.bi
  obtain ⟨pao, pcap, rfl, -⟩ := hV.pa.out
  rw [u64v_length] at so
  have HSo := Lib.hid so
  have hsI : (f.sizes.length : Int) ≤ 100000000 := by omega
  rw [u64v_length] at HF HM ⊢
  clear hV hn hb so
  obtain ⟨wB, hwB⟩ : ∃ wB, wB = w.alloc (.cells #[.slice cao f.coders.length ccap, .slice bao f.binds.length bcap, .slice pao (iv f.packs).length pcap, .slice sao f.sizes.length scap, h, k0] 46) := ⟨_, rfl⟩
  have F0 : Fr [] w wB := hwB ▸ (Fr.refl _ _).alloc _
  have HBX := Lib.hid (fun wx (F : Fr [] wB wx) => box6 (hwB ▸ F : Fr [] (w.alloc (.cells #[.slice cao f.coders.length ccap, .slice bao f.binds.length bcap, .slice pao (iv f.packs).length pcap, .slice sao f.sizes.length scap, h, k0] 46)) wx))
  obtain ⟨d0, d1, d2, d3, d4, d5⟩ := HBX.out wB (Fr.refl _ _)
  cases hm : mainIdx f with
  | none =>
    have HE := Lib.hid (show wholeOf f = 0 by rw [wholeOf, hm])
    have HMO := Lib.hid (show mainOf f = -1 by rw [mainOf, hm])
    clear hm
    go_enter Tryd.func45, Tryd.ntmps45
    go_upto_region 1 with fail
    rw [← hwB]
    clear hwB
    go_wp2_with (go_at_call 71; refine (HM.out _ (HF.out.fr F0)).mono ?_; rw [HMO.out]; rintro e w1 ⟨rfl, F1⟩)
    go_ret
    exact ⟨by rw [HE.out]; rfl, F0.trans0 F1⟩
  | some i =>
    have HMO := Lib.hid (show mainOf f = (i : Int) by rw [mainOf, hm])
    by_cases hlt : i < f.sizes.length
    · obtain ⟨x, hx⟩ := some_get f.sizes i hlt
      have HE := Lib.hid (show wholeOf f = x by rw [wholeOf, hm]; simp [List.getD, hx])
      obtain ⟨b, o, rfl, hb, hcell⟩ := HSo.out i hlt
      have HC0 := Lib.hid ((hcell i hlt).trans (u64v_get _ _ _ hx))
      have hltI : (i : Int) < (f.sizes.length : Int) := by omega
      clear hm hcell hx
      go_enter Tryd.func45, Tryd.ntmps45
      go_upto_region 1 with fail
      rw [← hwB]
      clear hwB
      go_wp2_with (go_at_call 71; refine (HM.out _ (HF.out.fr F0)).mono ?_; rw [HMO.out]; rintro e w1 ⟨rfl, F1⟩; obtain ⟨g0, g1, g2, g3, g4, g5⟩ := HBX.out _ F1; have d6 := ((F0.trans0 F1).cell (p := ⟨b, o + i, none⟩) hb (by simp)).trans HC0.out)
      go_ret
      exact ⟨by rw [HE.out]; rfl, F0.trans0 F1⟩
    · have HE := Lib.hid (show wholeOf f = 0 by rw [wholeOf, hm]; simp [List.getD, hlt])
      have hltI : (f.sizes.length : Int) ≤ (i : Int) := by omega
      clear hm
      go_enter Tryd.func45, Tryd.ntmps45
      go_upto_region 1 with fail
      rw [← hwB]
      clear hwB
      go_wp2_with (go_at_call 71; refine (HM.out _ (HF.out.fr F0)).mono ?_; rw [HMO.out]; rintro e w1 ⟨rfl, F1⟩; obtain ⟨g0, g1, g2, g3, g4, g5⟩ := HBX.out _ F1)
      go_ret
      exact ⟨by rw [HE.out]; rfl, F0.trans0 F1⟩

/-- A lone stream is one of the first so many. -/
theorem lone_le (f : Folder) : loneN f ≤ f.binds.length := by
  unfold loneN
  cases e : ((List.range (f.binds.length + 1)).find? fun i : Nat => decide ((i : Int) ∉ f.binds.map (·.1))) with
  | none => simp
  | some k =>
    rw [List.find?_range_eq_some] at e
    have := e.2.1
    simp at this
    simp
    omega
set_option maxRecDepth 100000 in
set_option maxHeartbeats 4000000 in
theorem rlone_any (w : World) (cv bv' p s h k0 : Value) (f : Folder) (hf : FoV w cv bv' p s f) (hn : f.coders.length ≤ 100000) (hb : f.binds.length ≤ 100000) (hlt : f.binds.length < allOf f) :
    Calls Tryd.prog 44 #[.agg #[cv, bv', p, s, h, k0]] w fun e w' => e = .returned (.int .i64 (loneN f : Nat)) ∧ Fr [] w w' := by
  have HAl := Lib.hid (fun wx (F : Fr [] w wx) => rallins_any wx (.agg #[cv, bv', p, s, h, k0]) f ⟨_, _, _, _, _, _, rfl, hf.fr F⟩ hn)
  obtain ⟨aob, capb, rfl, -, -, o⟩ := hf.bi.out
  obtain ⟨ao, cap, rfl, -, -, -⟩ := hf.co.out
  have HO := Lib.hid o
  clear hf o
  have HLT := Lib.hid hlt
  obtain ⟨wB, hwB⟩ : ∃ wB, wB = w.alloc (.cells #[.slice ao f.coders.length cap, .slice aob f.binds.length capb, p, s, h, k0] 46) := ⟨_, rfl⟩
  have F0 : Fr [] w wB := hwB ▸ (Fr.refl _ _).alloc _
  have HBX := Lib.hid (fun wx (F : Fr [] wB wx) => box6 (hwB ▸ F : Fr [] (w.alloc (.cells #[.slice ao f.coders.length cap, .slice aob f.binds.length capb, p, s, h, k0] 46)) wx))
  obtain ⟨M, hM⟩ : ∃ M, f.binds.length = M := ⟨_, rfl⟩
  have HM := Lib.hid hM
  rw [hM] at hb HBX hwB hlt HAl ⊢
  obtain ⟨AA, hAA⟩ : ∃ AA, allOf f = AA := ⟨_, rfl⟩
  rw [hAA] at HAl hlt
  have hmI : (M : Int) ≤ 100000 := by omega
  clear hM hAA hn
  go_enter Tryd.func44, Tryd.ntmps44
  go_wp2_with fail
  rw [← hwB]
  clear hwB
  go_loopw [3] (fun i wr => ∃ k : Nat, k ≤ M ∧ i = .int .i64 k ∧ (∀ j, j < k → (j : Int) ∈ f.binds.map (·.1)) ∧ Fr [] wB wr) (fun i _ => M + 1 - (intOf i).toNat)
  case atStart => exact ⟨0, Nat.zero_le _, rfl, fun _ h => by omega, Fr.refl _ _⟩
  case round =>
    obtain ⟨k, hk, rfl, hA, F⟩ := hrel
    obtain ⟨d0, d1, d2, d3, d4, d5⟩ := HBX.out _ F
    have hkI : (k : Int) < (AA : Int) := by omega
    have HA := Lib.hid hA
    clear hA
    rename World => wK
    go_wp2_with (go_at_call 43; refine (HAl.out _ (F0.trans0 F)).mono ?_; rintro e w2 ⟨rfl, F2⟩)
    have HFK := Lib.hid (F.trans0 F2)
    clear d0 d1 d2 d3 d4 d5 F F2
    go_loopw [4, 5] (fun fr i wq => ∃ m : Nat, m ≤ M ∧ i = .int .i64 m ∧ fr = .bool (decide ((k : Int) ∉ (f.binds.map (·.1)).take m)) ∧ Fr [] wB wq) (fun _ i _ => M - (intOf i).toNat)
    case atStart => exact ⟨0, Nat.zero_le _, rfl, by simp, HFK.out⟩
    case round =>
      obtain ⟨m, hm, rfl, rfl, FQ⟩ := hrel
      obtain ⟨d0, d1, d2, d3, d4, d5⟩ := HBX.out _ FQ
      by_cases hlm : m < M
      · have hlmI : (m : Int) < (M : Int) := by omega
        obtain ⟨y, hy⟩ := some_get f.binds m (by rw [HM.out]; exact hlm)
        obtain ⟨b1, o1, rfl, hb1, e0, e1⟩ := HO.out m y hy
        have c1 := ((F0.trans0 FQ).cell (p := ⟨b1, o1 + m * 2, none⟩) hb1 (by simp)).trans e0
        have HT := Lib.hid (show decide ((k : Int) ∉ (f.binds.map (·.1)).take (m + 1)) = (decide ((k : Int) ∉ (f.binds.map (·.1)).take m) && (y.1 != (k : Int))) by
          have : (f.binds.map (·.1))[m]? = some y.1 := by simp [hy]
          rw [List.take_add_one, this]
          by_cases e : y.1 = (k : Int)
          · simp [e]
          · have e' : (k : Int) ≠ y.1 := fun h => e h.symm
            simp [e', e])
        obtain ⟨y1, y2⟩ := y
        dsimp only at c1 HT
        clear e0 e1 hy
        generalize decide ((k : Int) ∉ (f.binds.map (·.1)).take m) = fr at *
        cases fr with
        | true =>
          by_cases e : y1 = (k : Int)
          · have t0 : (y1 == (k : Int)) = true := by rw [beq_iff_eq]; exact e
            have HT2 := Lib.hid (show decide ((k : Int) ∉ (f.binds.map (·.1)).take (m + 1)) = false by rw [HT.out, e]; simp)
            clear e
            go_wp2_with fail
            go_roundw
            case rel => exact ⟨m + 1, by omega, by go_num, by rw [HT2.out]; first | rfl | (simp; first | exact beq_iff_eq.1 t0 | exact beq_eq_false_iff_ne.1 t0), FQ⟩
            case measure => simp [intOf]; omega
          · have t0 : (y1 == (k : Int)) = false := by rw [beq_eq_false_iff_ne]; exact e
            have HT2 := Lib.hid (show decide ((k : Int) ∉ (f.binds.map (·.1)).take (m + 1)) = true by rw [HT.out]; simp [e])
            clear e
            go_wp2_with fail
            go_roundw
            case rel => exact ⟨m + 1, by omega, by go_num, by rw [HT2.out]; first | rfl | (simp; first | exact beq_iff_eq.1 t0 | exact beq_eq_false_iff_ne.1 t0), FQ⟩
            case measure => simp [intOf]; omega
        | false =>
          have HT2 := Lib.hid (show decide ((k : Int) ∉ (f.binds.map (·.1)).take (m + 1)) = false by rw [HT.out]; rfl)
          go_wp2_with fail
          go_roundw
          case rel => exact ⟨m + 1, by omega, by go_num, by rw [HT2.out], FQ⟩
          case measure => simp [intOf]; omega
      · have hme : m = M := by omega
        subst hme
        rw [List.take_of_length_le (by rw [List.length_map, HM.out]; exact Nat.le_refl _)]
        by_cases hin : (k : Int) ∈ f.binds.map (·.1)
        · rw [show decide ((k : Int) ∉ f.binds.map (·.1)) = false by simpa using hin]
          have HA2 := Lib.hid (show ∀ j : Nat, j < k + 1 → (j : Int) ∈ f.binds.map (·.1) from fun j hj => by
            by_cases e : j = k
            · rw [e]; exact hin
            · exact HA.out j (by omega))
          have hfew := few_of (k + 1) _ HA2.out
          rw [List.length_map, HM.out] at hfew
          clear hin
          go_wp2_with fail
          go_roundw
          case rel => exact ⟨k + 1, by omega, by go_num, HA2.out, FQ⟩
          case measure => simp [intOf]; omega
        · rw [show decide ((k : Int) ∉ f.binds.map (·.1)) = true by simpa using hin]
          have HE := Lib.hid (lone_at HA.out hin)
          clear hin
          go_wp2_with fail
          go_ret
          exact ⟨by rw [HE.out]; rfl, F0.trans0 FQ⟩
set_option maxRecDepth 100000 in
theorem rfair_any (w : World) (c : Ck) : Calls Tryd.prog 18 #[.agg #[.bool c.has, .int .u32 c.sum.toNat]] w fun e w' => e = .returned (.bool (ckOk c)) ∧ Fr [] w w' := by
  obtain ⟨hs, sm⟩ := c
  have ea : ((sm.toNat : Int) == 0) = (sm == 0) := by
    by_cases h : sm = 0
    · subst h; rfl
    · have h1 : sm.toNat ≠ 0 := fun e => h (UInt32.toNat_inj.1 e)
      have h2 : (sm == 0) = false := by simp [h]
      rw [h2, beq_eq_false_iff_ne]
      omega
  unfold ckOk
  dsimp only
  generalize (sm == 0) = z at *
  cases hs <;> cases z
  all_goals
    go_enter Tryd.func18, Tryd.ntmps18
    go_wp2_with fail
    go_ret
    exact ⟨rfl, (Fr.refl _ _).alloc _⟩
end Go.Proofs.YtkodindajfdagaaDoor
